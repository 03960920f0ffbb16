/- seal: Newest, Renew. -/
import Derived.Test.YtikfphojehgpjaaGreatDoorM14
import Derived.Deep.Upon
import Derived.BigQuiet
set_option linter.unusedSimpArgs false
set_option linter.unusedVariables false
namespace Go.Proofs.YtikfphojehgpjaaGreatDoor
open Go.RowKit Vl
set_option linter.unusedVariables false

def NewestPost (l r : List UInt8) (w : World) (e : Ending) (w' : World) : Prop := Kept [] w w' ∧
  ((anchorN l = 0 ∧ anchorN r = 0 ∧ e = .returned (.tuple #[.int .i64 0, .int .i64 0, .slice none 0 0, .int .i64 30])) ∨
   (anchorN l < anchorN r ∧ ∃ a c, e = .returned (.tuple #[.int .i64 1, .int .i64 (anchorN r), .slice a (anchorD r).length c, .int .i64 0]) ∧ BytesAt w' a (anchorD r)) ∨
   (anchorN r ≤ anchorN l ∧ anchorN l ≠ 0 ∧ ∃ a c, e = .returned (.tuple #[.int .i64 0, .int .i64 (anchorN l), .slice a (anchorD l).length c, .int .i64 0]) ∧ BytesAt w' a (anchorD l)))
theorem results_tmp4 {P : Program} {fn : Func} {p q u v : Tmp} (h : fn.results = #[.tmp p, .tmp q, .tmp u, .tmp v]) (tmps : Array Value) (w : World) :
    (results fn tmps).run P w = .ok (.tuple #[tmps.getD p undef, tmps.getD q undef, tmps.getD u undef, tmps.getD v undef]) w := by
  simp [results, h]
set_option maxRecDepth 100000 in
set_option maxHeartbeats 1000000 in
theorem newest_walk (l r : List UInt8) (g o c h p d : Nat) (w : World) (hl : BytesAt w (some ⟨g, o, none⟩) l) (hr : BytesAt w (some ⟨h, p, none⟩) r) (bl : Bodied l) (br : Bodied r) :
    Calls Tryz.prog 95 #[.slice (some ⟨g, o, none⟩) 512 c, .slice (some ⟨h, p, none⟩) 512 d] w (NewestPost l r w) := by
  have HP := Lib.hid (pair_walk l r g o c h p d w hl hr bl br)
  clear hl hr bl br
  go_enter Tryz.func95, Tryz.ntmps95
  go_wp2_with fail
  refine HP.out.mono ?_
  rintro e w1 ⟨hk1, a, ca, b, cb, rfl, hba, hbb⟩
  obtain ⟨n, hn⟩ : ∃ n, n = (anchorD l).length := ⟨_, rfl⟩
  obtain ⟨m, hm⟩ : ∃ m, m = (anchorD r).length := ⟨_, rfl⟩
  have ha := anchorN_lt l
  have hb := anchorN_lt r
  obtain ⟨A, hA⟩ : ∃ A, A = anchorN l := ⟨_, rfl⟩
  obtain ⟨B, hB⟩ : ∃ B, B = anchorN r := ⟨_, rfl⟩
  have hs3 := heap_alloc_new w1 (.cells #[.int .i64 A, .slice a n ca, .int .i64 B, .slice b m cb] 247)
  have hk3 := (Kept.refl [] w1).alloc (.cells #[.int .i64 A, .slice a n ca, .int .i64 B, .slice b m cb] 247)
  have hba3 := hba.below hk3.below
  have hbb3 := hbb.below hk3.below
  have hkk := hk1.trans hk3 (by simp)
  rw [← hn, ← hm, ← hA, ← hB]
  rw [← hA] at ha
  rw [← hB] at hb
  generalize hq : w1.heap.size = q at *
  have hwq : w.heap.size ≤ q := by rw [← hq]; exact hk1.size
  have HP1 : Hid (∀ w', Kept [] w w' → A = 0 → B = 0 → NewestPost l r w (.returned (.tuple #[.int .i64 0, .int .i64 0, .slice none 0 0, .int .i64 30])) w') := Lib.hid (fun w' hk h1 h2 => ⟨hk, .inl ⟨by rw [← hA]; exact h1, by rw [← hB]; exact h2, rfl⟩⟩)
  have HP2 : Hid (∀ w', Kept [] w w' → BytesAt w' b (anchorD r) → A < B → NewestPost l r w (.returned (.tuple #[.int .i64 1, .int .i64 B, .slice b m cb, .int .i64 0])) w') := Lib.hid (fun w' hk h1 h2 => ⟨hk, .inr (.inl ⟨by rw [← hA, ← hB]; exact h2, b, cb, by rw [hm, hB], h1⟩)⟩)
  have HP3 : Hid (∀ w', Kept [] w w' → BytesAt w' a (anchorD l) → B ≤ A → A ≠ 0 → NewestPost l r w (.returned (.tuple #[.int .i64 0, .int .i64 A, .slice a n ca, .int .i64 0])) w') := Lib.hid (fun w' hk h1 h2 h3 => ⟨hk, .inr (.inr ⟨by rw [← hA, ← hB]; exact h2, by rw [← hA]; exact h3, a, ca, by rw [hn, hA], h1⟩)⟩)
  have HB3 := Lib.hid hbb3
  have HA3 := Lib.hid hba3
  have HKK := Lib.hid hkk
  have HS3 := Lib.hid hs3
  have hz1 : w1.heap.size ≤ q := by omega
  clear hn hm hA hB hba hbb hba3 hbb3 hkk hs3 hk3 hk1
  by_cases hz : A = 0 ∧ B = 0
  · have hps : pairSlot A B = -1 := if_pos hz
    rw [hps]
    have HF := Lib.hid (HP1.out _ HKK.out hz.1 hz.2)
    clear hps hz
    go_wp2
    exact bodyPost_ret (results_tmp4 (fn := Tryz.f95) (p := 4) (q := 5) (u := 6) (v := 7) rfl _ _) rfl HF.out
  · by_cases hab : A < B
    · have hps : pairSlot A B = 1 := by unfold pairSlot; rw [if_neg hz, if_pos hab]
      rw [hps]
      have HF := Lib.hid (fun nq => HP2.out _ (HKK.out.drewN nq) HB3.out hab)
      clear hps hz hab
      go_upto_region 6 with fail
      generalize w1.alloc (.cells #[.int .i64 A, .slice a n ca, .int .i64 B, .slice b m cb] 247) = w3 at *
      have z2 := cell_whole HS3.out 2
      have z3 := cell_whole HS3.out 3
      have hlt := lt_whole HS3.out
      simp only [List.getElem?_toArray, List.getElem?_cons_zero, List.getElem?_cons_succ] at z2 z3
      go_quiet (fail)
      go_wp2
      exact bodyPost_ret (results_tmp4 (fn := Tryz.f95) (p := 4) (q := 5) (u := 6) (v := 7) rfl _ _) rfl (HF.out _)
    · have hps : pairSlot A B = 0 := by unfold pairSlot; rw [if_neg hz, if_neg hab]
      rw [hps]
      have HF := Lib.hid (fun nq => HP3.out _ (HKK.out.drewN nq) HA3.out (by omega) (by omega))
      clear hps hz hab
      go_upto_region 6 with fail
      generalize w1.alloc (.cells #[.int .i64 A, .slice a n ca, .int .i64 B, .slice b m cb] 247) = w3 at *
      have z0 := cell_whole HS3.out 0
      have z1 := cell_whole HS3.out 1
      have hlt := lt_whole HS3.out
      simp only [List.getElem?_toArray, List.getElem?_cons_zero, List.getElem?_cons_succ] at z0 z1
      go_quiet (fail)
      go_wp2
      exact bodyPost_ret (results_tmp4 (fn := Tryz.f95) (p := 4) (q := 5) (u := 6) (v := 7) rfl _ _) rfl (HF.out _)
end Go.Proofs.YtikfphojehgpjaaGreatDoor
/- seal: Renew. -/
namespace Go.Proofs.YtikfphojehgpjaaGreatDoor
open Go.RowKit Vl
set_option linter.unusedVariables false

theorem append_nothing (w : World) (g n c : Nat) (h : n ≤ c) (ty : TypeId) : (Builtin.append_ #[22, 22] ty #[.slice (some ⟨g, 0, none⟩) n c, .slice none 0 0]).run Tryz.prog w = .ok (.slice (some ⟨g, 0, none⟩) n c) w := by
  have hi := info5
  cases hq : Tryz.prog.info? 5 with
  | none => rw [hq] at hi; simp at hi
  | some i => exact run_append_nothing w 22 22 ty 5 i Tryz.underlying22 hq (some ⟨g, 0, none⟩) n c h _ ⟨.inl ⟨5, Tryz.underlying22⟩, fun w' => by simp [Builtin.lenOf], by simp [Builtin.firstCells], by simp [Builtin.firstCells], by simp, by simp⟩
theorem make_eight (w : World) (z : List UInt8) (hz : z = List.replicate 8 0) : (Instr.makeSlice 22 (.int .i64 8) (.int .i64 8)).run Tryz.prog w = .ok (.slice (some ⟨w.heap.size, 0, none⟩) 8 8) (w.alloc (.cells (bcells z).toArray 5)) := by
  subst hz; exact make_bytes w 8 (by omega)
def RenewPost (l r : List UInt8) (no : Nat) (w : World) (e : Ending) (w' : World) : Prop := Kept [] w w' ∧ ∃ g, w.heap.size ≤ g ∧
  ((pairSlot (anchorN l) (anchorN r) = 0 ∧ e = .returned (.tuple #[.int .i64 1, .slice (some ⟨g, 0, none⟩) 512 512, .int .i64 0]) ∧ BytesT w' g 299 (sealOver r (leB no 8))) ∨
   (pairSlot (anchorN l) (anchorN r) ≠ 0 ∧ e = .returned (.tuple #[.int .i64 0, .slice (some ⟨g, 0, none⟩) 512 512, .int .i64 0]) ∧ BytesT w' g 299 (sealOver l (leB no 8))))
set_option maxRecDepth 100000 in
set_option maxHeartbeats 1000000 in
theorem renew_walk (l r : List UInt8) (g o c h p d : Nat) (no : Nat) (w : World) (hl : BytesAt w (some ⟨g, o, none⟩) l) (hr : BytesAt w (some ⟨h, p, none⟩) r) (bl : Bodied l) (br : Bodied r)
    (h1 : 1 ≤ no) (hno : no < 4611686018427387904) (hA : anchorN l < no) (hB : anchorN r < no) :
    Calls Tryz.prog 144 #[.slice (some ⟨g, o, none⟩) 512 c, .slice (some ⟨h, p, none⟩) 512 d, .int .i64 no, .slice none 0 0] w (RenewPost l r no w) := by
  have HP := Lib.hid (pair_walk l r g o c h p d w hl hr bl br)
  have HSL := Lib.hid (fun w' (k : Kept [] w w') body ga ca (hb : BytesAt w' (some ⟨ga, 0, none⟩) body) (hle : body.length ≤ 504) => seal_walk l body g o c ga 0 ca w' (hl.below k.below) bl.1 hb hle)
  have HSR := Lib.hid (fun w' (k : Kept [] w w') body ga ca (hb : BytesAt w' (some ⟨ga, 0, none⟩) body) (hle : body.length ≤ 504) => seal_walk r body h p d ga 0 ca w' (hr.below k.below) br.1 hb hle)
  clear hl hr bl br
  obtain ⟨A, ha⟩ : ∃ A, A = anchorN l := ⟨_, rfl⟩
  obtain ⟨B, hb⟩ : ∃ B, B = anchorN r := ⟨_, rfl⟩
  rw [← ha] at hA
  rw [← hb] at hB
  have HQ : Hid (∀ e w', (Kept [] w w' ∧ ∃ g, w.heap.size ≤ g ∧
  ((pairSlot A B = 0 ∧ e = Ending.returned (.tuple #[.int .i64 1, .slice (some ⟨g, 0, none⟩) 512 512, .int .i64 0]) ∧ BytesT w' g 299 (sealOver r (leB no 8))) ∨
   (pairSlot A B ≠ 0 ∧ e = .returned (.tuple #[.int .i64 0, .slice (some ⟨g, 0, none⟩) 512 512, .int .i64 0]) ∧ BytesT w' g 299 (sealOver l (leB no 8))))) → RenewPost l r no w e w') := Lib.hid (by
    rintro e w' x
    rw [ha, hb] at x
    exact x)
  go_enter Tryz.func144, Tryz.ntmps144
  go_wp2_with fail
  refine HP.out.mono ?_
  rintro e w1 ⟨hk1, a, ca, b, cb, rfl, _, _⟩
  rw [← ha, ← hb]
  generalize (anchorD l).length = n at *
  generalize (anchorD r).length = m at *
  have HK1 := Lib.hid hk1
  have hs3 := heap_alloc_new w1 (.cells #[.int .i64 A, .slice a n ca, .int .i64 B, .slice b m cb] 247)
  have HK3 := Lib.hid (hk1.trans ((Kept.refl [] w1).alloc (.cells #[.int .i64 A, .slice a n ca, .int .i64 B, .slice b m cb] 247)) (by simp))
  have hq1 := hk1.size
  have hlt3 := lt_whole hs3
  have x0 := cell_whole hs3 0
  have x2 := cell_whole hs3 2
  simp only [List.getElem?_toArray, List.getElem?_cons_zero, List.getElem?_cons_succ] at x0 x2
  have HS3 := Lib.hid hs3
  have z0 : decide (no ≤ A) = false := decide_eq_false (by omega)
  have z1 : decide (no ≤ B) = false := decide_eq_false (by omega)
  have z2 : decide ((no : Int) < 1) = false := decide_eq_false (by omega)
  have z3 : decide (no < 1) = false := decide_eq_false (by omega)
  clear ha hb hk1 hs3
  generalize hsl : pairSlot A B = sl at *
  have hs : sl = -1 ∨ sl = 0 ∨ sl = 1 := by
    rw [← hsl]; unfold pairSlot; split
    · exact .inl rfl
    · split
      · exact .inr (.inr rfl)
      · exact .inr (.inl rfl)
  clear hsl
  generalize hq : w1.heap.size = q at *
  have hz8 : (List.replicate 8 (0 : UInt8)).length = 8 := rfl
  have hap := append_nothing
  rcases hs with rfl | rfl | rfl
  all_goals
    go_upto_region 10 with fail
    clear x0 x2 z0 z1 hlt3
    generalize w1.alloc (.cells #[.int .i64 A, .slice a n ca, .int .i64 B, .slice b m cb] 247) = w3 at *
    obtain ⟨z, hz⟩ : ∃ z, z = List.replicate 8 (0 : UInt8) := ⟨_, rfl⟩
    have hmk8 := make_eight w3 z hz
    rw [← hz] at hz8
    have HK4 := Lib.hid (HK3.out.alloc (.cells (bcells z).toArray 5))
    have HB4 := Lib.hid (show Bytes (w3.alloc (.cells (bcells z).toArray 5)) w3.heap.size z from heap_alloc_new w3 _)
    have HG := Lib.hid HK3.out.size
    have HZ8 := Lib.hid hz8
    clear hz hz8
    go_upto_region 11 with fail
    generalize w3.alloc (.cells (bcells z).toArray 5) = w4 at *
    generalize hgg : w3.heap.size = gg at *
    clear hmk8 hgg
    go_wp2_with fail
    go_loopw [15, 54] (fun _ v54 wr => ∃ j : Nat, j ≤ 8 ∧ v54 = .int .i64 j ∧ Bytes wr gg (over z 0 (leB no j)) ∧ Kept [] w wr) (fun _ v54 _ => 8 - (intOf v54).toNat)
    case atStart => exact ⟨0, by omega, rfl, by rw [leB, over_nil]; exact HB4.out, HK4.out⟩
    case round =>
      obtain ⟨j, hj, rfl, hwb, hwk⟩ := hrel
      have HWB := Lib.hid hwb
      have HWK := Lib.hid hwk
      clear hwb hwk
      by_cases hj8 : j < 8
      · have hol : (over z 0 (leB no j)).length = 8 := by rw [over_length (by rw [leB_length, HZ8.out]; omega), HZ8.out]
        obtain ⟨cv, cz⟩ : ∃ cv, wr.cell? ⟨gg, j, none⟩ = some cv := ⟨_, HWB.out.cell (i := j) (by omega)⟩
        have fz := frozen_whole HWB.out j
        have hlz := lt_whole HWB.out
        have HSN := Lib.hid (show (over z 0 (leB no j)).set j (UInt8.ofNat (no / 256 ^ j % 256)) = over z 0 (leB no (j + 1)) by
          rw [leB_snoc]
          have := over_snoc (l := z) (m := leB no j) (at_ := 0) (UInt8.ofNat (no / 256 ^ j % 256)) (by rw [leB_length, HZ8.out]; omega)
          rwa [leB_length, Nat.zero_add] at this)
        have hb2 := HWB.out.set j (UInt8.ofNat (no / 256 ^ j % 256))
        rw [byte_shr] at hb2
        have HB2 := Lib.hid hb2
        have HK2 := Lib.hid (HWK.out.setCell ⟨gg, j, none⟩ (.int .u8 ((no : Int) / 2 ^ (8 * j) % 256)) (.inr HG.out))
        clear hol hb2
        go_wp2
        go_roundw
        case rel => exact ⟨j + 1, by omega, by go_num, by rw [← HSN.out]; exact HB2.out, HK2.out⟩
        case measure => simp [intOf]; omega
      · obtain rfl : j = 8 := by omega
        clear hj8
        have HF := Lib.hid (show Bytes wr gg (leB no 8) by
          have := HWB.out
          rwa [over_same (by rw [leB_length, HZ8.out])] at this)
        have hap1 := hap wr gg 8 8 (by omega) 22
        have h504 : (leB no 8).length ≤ 504 := by rw [leB_length]; omega
        have hseal1 := HSL.out wr HWK.out _ gg 8 HF.out.at h504
        have hseal2 := HSR.out wr HWK.out _ gg 8 HF.out.at h504
        rw [leB_length] at hseal1 hseal2
        have HS1 := Lib.hid hseal1
        have HS2 := Lib.hid hseal2
        clear hap h504 hseal1 hseal2
        go_wp2_with fail
        first | (with_reducible refine HS1.out.mono ?_) | (with_reducible refine HS2.out.mono ?_)
        rintro e w5 ⟨hk5, g5, hg5, rfl, hb5⟩
        have HKE := Lib.hid (HWK.out.trans hk5 (by simp))
        have HBE := Lib.hid hb5
        have HGE := Lib.hid (Nat.le_trans HWK.out.size hg5)
        clear hk5 hg5 hb5
        go_wp2
        go_ret3
        refine HQ.out _ _ ⟨HKE.out, g5, HGE.out, ?_⟩
        first | exact .inl ⟨by simp, rfl, HBE.out⟩ | exact .inr ⟨by simp, rfl, HBE.out⟩
end Go.Proofs.YtikfphojehgpjaaGreatDoor
/- wal: the log in memory; place, at, pair. -/
namespace Go.Proofs.YtikfphojehgpjaaGreatDoor
open Go.RowKit Vl Go.Maps Go.ChangeMaps
set_option linter.unusedVariables false

/-- What reads, writes and flushes leave alone. -/
structure Sim (D D' : Dk) : Prop where
  S : D'.S = D.S
  rf : D'.rf = D.rf
  life : D'.life = D.life
theorem Sim.refl (D : Dk) : Sim D D := ⟨rfl, rfl, rfl⟩
theorem Sim.trans {A B C : Dk} (h : Sim A B) (k : Sim B C) : Sim A C := ⟨k.S.trans h.S, k.rf.trans h.rf, k.life.trans h.life⟩
theorem Sim.read (D : Dk) : Sim D D.read := ⟨rfl, rfl, rfl⟩
theorem Sim.write (D : Dk) (i : Nat) (l : List UInt8) : Sim D (D.write i l) := ⟨rfl, rfl, rfl⟩
theorem Sim.flush (D : Dk) : Sim D D.flush := ⟨rfl, rfl, rfl⟩
/-- Nothing is pending; this lies there. -/
structure Flushed (D : Dk) (f : Nat → List UInt8) : Prop where
  pend : ∀ i, D.pend i = none
  np : D.np = 0
  pe : D.pe = 0
  dur : D.dur = f
theorem Flushed.flush (D : Dk) : Flushed D.flush D.now := ⟨fun _ => rfl, rfl, rfl, rfl⟩
theorem Flushed.now {D : Dk} {f : Nat → List UInt8} (h : Flushed D f) : D.now = f := by
  funext i
  unfold Dk.now
  rw [h.pend i, h.dur]; rfl
theorem Flushed.read {D : Dk} {f : Nat → List UInt8} (h : Flushed D f) : Flushed D.read f := ⟨h.pend, h.np, h.pe, h.dur⟩
theorem Flushed.take {D : Dk} {f : Nat → List UInt8} (h : Flushed D f) : Flushed D.take f := ⟨h.pend, h.np, h.pe, h.dur⟩
theorem now_write (D : Dk) (i : Nat) (l : List UInt8) : (D.write i l).now = upd D.now i l := by
  funext j
  show (upd D.pend i (some l) j).getD (D.dur j) = _
  by_cases h : j = i
  · subst h; rw [upd_same, upd_same]; rfl
  · rw [upd_other _ _ h, upd_other _ _ h]; rfl
/-- A log. -/
structure Lg where
  first : Nat
  n : Nat
  life : Nat
  epoch : Nat
  top : Nat
  tail : Nat
  head : Nat
  started : Bool
def logCells (L : Lg) (d : Nat) : Array Value := #[.pointer (some ⟨d, 0, none⟩), .int .i64 L.first, .int .i64 L.n, .int .i64 L.life, .int .i64 L.epoch, .int .i64 L.top, .int .i64 L.tail, .int .i64 L.head, .bool L.started]
structure LogAt (w : World) (g d : Nat) (L : Lg) : Prop where
  blk : w.heap[g]? = some (.cells (logCells L d) 174 (0, 0))
  first : L.first ≤ 4096
  n : 18 ≤ L.n ∧ L.n ≤ 256
  life : L.life ≤ 1000000
  epoch : L.epoch ≤ 1073741824
  top : L.top ≤ 1073741824
  tail : L.tail ≤ 1073741824
  head : L.head ≤ 1073741824
section
variable {w w' : World} {g d : Nat} {L : Lg}
theorem LogAt.kept {F : List Nat} (h : LogAt w g d L) (hk : Kept F w w') (hg : g ∉ F) : LogAt w' g d L := ⟨hk.keep h.blk hg, h.first, h.n, h.life, h.epoch, h.top, h.tail, h.head⟩
theorem LogAt.cells (h : LogAt w g d L) :
    w.cell? ⟨g, 0, none⟩ = some (.pointer (some ⟨d, 0, none⟩)) ∧ w.cell? ⟨g, 1, none⟩ = some (.int .i64 L.first) ∧ w.cell? ⟨g, 2, none⟩ = some (.int .i64 L.n) ∧ w.cell? ⟨g, 3, none⟩ = some (.int .i64 L.life) ∧ w.cell? ⟨g, 4, none⟩ = some (.int .i64 L.epoch) ∧
    w.cell? ⟨g, 5, none⟩ = some (.int .i64 L.top) ∧ w.cell? ⟨g, 6, none⟩ = some (.int .i64 L.tail) ∧ w.cell? ⟨g, 7, none⟩ = some (.int .i64 L.head) ∧ w.cell? ⟨g, 8, none⟩ = some (.bool L.started) :=
  ⟨cell_whole h.blk 0, cell_whole h.blk 1, cell_whole h.blk 2, cell_whole h.blk 3, cell_whole h.blk 4, cell_whole h.blk 5, cell_whole h.blk 6, cell_whole h.blk 7, cell_whole h.blk 8⟩
end

set_option maxRecDepth 100000 in
set_option maxHeartbeats 1000000 in
theorem place_walk (d du mp base : Nat) (D : Dk) (w : World) (h : DiskAt w d du mp base D) (f n : Nat) (hf : f < D.S) (hn : 18 ≤ n ∧ n ≤ 256) (hfn : f + 2 + n ≤ D.S) :
    Calls Tryz.prog 86 #[.pointer (some ⟨d, 0, none⟩), .int .i64 f, .int .i64 n] w fun e w' => e = .returned (.int .i64 (if D.burnt = true then 3 else 0)) ∧ w' = w := by
  have HS := Lib.hid (sectors_walk d du mp base D w h)
  have HB := Lib.hid (burnt_walk d du mp base D w h)
  have hS := h.pos
  clear h
  obtain ⟨S, hSe⟩ : ∃ S, S = D.S := ⟨_, rfl⟩
  rw [← hSe] at HS hf hfn hS
  clear hSe
  cases hb : D.burnt with
  | true =>
    rw [hb] at HB
    go_enter Tryz.func86, Tryz.ntmps86
    go_wp2_with fail
    refine HS.out.mono ?_
    rintro e w1 ⟨rfl, rfl⟩
    go_wp2_with fail
    refine HB.out.mono ?_
    rintro e w2 ⟨rfl, rfl⟩
    go_wp2
    go_ret
    exact ⟨rfl, rfl⟩
  | false =>
    rw [hb] at HB
    have t1 : decide ((f : Int) < 0) = false := decide_eq_false (by omega)
    have t2 : decide (S ≤ f) = false := decide_eq_false (by omega)
    have t3 : decide ((n : Int) < 18) = false := decide_eq_false (by omega)
    have t4 : decide ((256 : Int) < (n : Int)) = false := decide_eq_false (by omega)
    have t5 : decide ((S : Int) < (f : Int) + 2 + (n : Int)) = false := decide_eq_false (by omega)
    go_enter Tryz.func86, Tryz.ntmps86
    go_wp2_with fail
    refine HS.out.mono ?_
    rintro e w1 ⟨rfl, rfl⟩
    go_wp2_with fail
    refine HB.out.mono ?_
    rintro e w2 ⟨rfl, rfl⟩
    go_wp2
    go_ret
    exact ⟨rfl, rfl⟩

theorem at_walk (g d : Nat) (L : Lg) (w : World) (h : LogAt w g d L) (p : Nat) (hp : p ≤ 2147483648) :
    Calls Tryz.prog 147 #[.pointer (some ⟨g, 0, none⟩), .int .i64 p] w fun e w' => e = .returned (.int .i64 (L.first + 2 + p % L.n : Nat)) ∧ ∃ k, w' = w.drewN k := by
  obtain ⟨_, c1, c2, _⟩ := h.cells
  have hn := h.n
  have hf := h.first
  have hlt := lt_whole h.blk
  clear h
  obtain ⟨n, hn'⟩ : ∃ n, n = L.n := ⟨_, rfl⟩
  obtain ⟨f, hf'⟩ : ∃ f, f = L.first := ⟨_, rfl⟩
  rw [← hn'] at c2 hn
  rw [← hf'] at c1 hf
  have HE : Hid (∀ m : Nat, m = L.n → ∀ q : Nat, q = L.first → ((q : Int) + 2 + ((p % m : Nat) : Int)) = ((L.first + 2 + p % L.n : Nat) : Int)) := Lib.hid (by rintro m rfl q rfl; omega)
  have HN := Lib.hid hn'
  have HF := Lib.hid hf'
  clear hn' hf'
  have hr : (p : Int).tmod (n : Int) = ((p % n : Nat) : Int) := by rw [Int.tmod_eq_emod_of_nonneg (by omega)]; rfl
  have hlt2 : p % n < n := Nat.mod_lt _ (by omega)
  go_enter Tryz.func147, Tryz.ntmps147
  go_wp2_with fail
  go_quiet (fail)
  go_wp2
  go_ret
  exact ⟨congrArg Ending.returned (congrArg (Value.int .i64) (HE.out n HN.out f HF.out)), _, rfl⟩

def PairLPost (d du mp base : Nat) (D : Dk) (L : Lg) (w : World) (e : Ending) (w' : World) : Prop := (D.burnt = true ∧ e = .returned (.tuple #[.slice none 0 0, .slice none 0 0, .int .i64 3]) ∧ Kept [] w w') ∨
  (D.burnt = false ∧ ∃ g1 g2, w.heap.size ≤ g1 ∧ w.heap.size ≤ g2 ∧ e = .returned (.tuple #[.slice (some ⟨g1, 0, none⟩) 512 512, .slice (some ⟨g2, 0, none⟩) 512 512, .int .i64 0]) ∧ Bytes w' g1 (D.now L.first) ∧ Bytes w' g2 (D.now (L.first + 1)) ∧
    DiskAt w' d du mp base D.read.read ∧ Kept [d] w w')
set_option maxRecDepth 100000 in
set_option maxHeartbeats 1000000 in
theorem pairL_walk (d du mp base g : Nat) (D : Dk) (L : Lg) (w : World) (h : DiskAt w d du mp base D) (hL : LogAt w g d L) (hg : g ≠ d) (hS : L.first + 1 < D.S) :
    Calls Tryz.prog 94 #[.pointer (some ⟨g, 0, none⟩)] w (PairLPost d du mp base D L w) := by
  have HR1 := Lib.hid (read_walk d du mp base D w.drew h.drew L.first (by omega))
  have HR2 : Hid (∀ w', DiskAt w' d du mp base D.read → Calls Tryz.prog 40 #[.pointer (some ⟨d, 0, none⟩), .int .i64 ((L.first : Int) + 1)] w' (ReadPost d du mp base D.read (L.first + 1) w')) := Lib.hid (fun w' hw => read_walk d du mp base D.read w' hw (L.first + 1) hS)
  have hdl := lt_whole h.blk
  obtain ⟨c0, c1, _⟩ := hL.cells
  have hlt := lt_whole hL.blk
  have hf := hL.first
  have HL := Lib.hid hL
  have HD := Lib.hid h.low
  have hbn : D.read.burnt = D.burnt := rfl
  clear h hL
  obtain ⟨f, hf'⟩ : ∃ f, f = L.first := ⟨_, rfl⟩
  have HF := Lib.hid hf'
  rw [← hf'] at HR1 HR2 c1 hf
  clear hf'
  go_enter Tryz.func94, Tryz.ntmps94
  go_wp2_with fail
  refine wp_canon (by kernel_rfl) (by kernel_rfl) ?_
  go_wp2_with fail
  refine HR1.out.mono ?_
  rintro e w1 hpost
  rcases hpost with ⟨hb, rfl, hk⟩ | ⟨hb, g1, hg1, rfl, hB1, hD1, hk1⟩
  · go_wp2
    refine ⟨rfl, ?_⟩
    have HK := Lib.hid hk
    clear hk
    go_wp2
    go_ret3
    exact .inl ⟨hb, rfl, (Kept.refl [] w).drew.trans HK.out (by simp)⟩
  · have hg1 : w.heap.size ≤ g1 := hg1
    have HB1 := Lib.hid hB1
    have HK1 := Lib.hid ((Kept.refl [d] w).drew.trans hk1 (by simp))
    have HG1 := Lib.hid hg1
    have HL1 := Lib.hid (HL.out.kept HK1.out (by simpa using hg))
    have HR := Lib.hid (HR2.out w1.drew hD1.drew)
    obtain ⟨d0, d1, _⟩ := HL1.out.cells
    have hl1 := lt_whole HL1.out.blk
    have hg1' : g1 ∉ [d] := by simp; omega
    rw [← HF.out] at d1
    clear hB1 hD1 hk1 hg1 c0 c1 hlt
    go_wp2
    refine ⟨rfl, ?_⟩
    go_wp2_with fail
    refine wp_canon (by kernel_rfl) (by kernel_rfl) ?_
    go_wp2_with fail
    refine HR.out.mono ?_
    rintro e w2 hpost
    rcases hpost with ⟨hb2, _, _⟩ | ⟨_, g2, hg2, rfl, hB2, hD2, hk2⟩
    · have : D.burnt = true := hb2
      rw [hb] at this; cases this
    · have HB1' := Lib.hid (HB1.out.kept ((Kept.refl [d] w1).drew.trans hk2 (by simp)) hg1')
      have HB2 := Lib.hid hB2
      have HD2 := Lib.hid hD2
      have HK2 := Lib.hid (HK1.out.drew.trans hk2 (by simp))
      have HG2 := Lib.hid (Nat.le_trans HK1.out.size hg2)
      clear hB2 hD2 hk2 hg2 d0 d1 hl1
      go_wp2
      refine ⟨rfl, ?_⟩
      go_wp2
      go_ret3
      refine .inr ⟨hb, g1, g2, HG1.out, HG2.out, rfl, ?_, ?_, HD2.out, HK2.out⟩
      · rw [← HF.out]; exact HB1'.out
      · rw [← HF.out]; exact HB2.out
end Go.Proofs.YtikfphojehgpjaaGreatDoor
/- wal: anchor. -/
namespace Go.Proofs.YtikfphojehgpjaaGreatDoor
open Go.RowKit Vl Go.Maps Go.ChangeMaps
set_option linter.unusedVariables false

theorem BytesT.at {w : World} {g t : Nat} {l : List UInt8} (h : BytesT w g t l) : BytesAt w (some ⟨g, 0, none⟩) l := by
  have := h.part 0 l.length (by omega)
  rwa [List.drop_zero, List.take_length] at this
theorem sealOver_length (old : List UInt8) {body : List UInt8} (h : body.length ≤ 504) : (sealOver old body).length = 512 := sealSec_length _ h
theorem sealOver_bodied (old : List UInt8) {body : List UInt8} (h : body.length ≤ 504) (h0 : 0 < body.length) : Bodied (sealOver old body) :=
  ⟨sealOver_length old h, fun b hb => by
    unfold sealOver at hb
    rw [openB_seal (turnOf_lt _ _) h] at hb
    rw [← Option.some.inj hb]; exact h0⟩
theorem zsec_bodied : Bodied zsec := ⟨zsec_length, fun b hb => by rw [openB_zero] at hb; cases hb⟩

/-- The pair's next anchor. -/
def anchSlot (f : Nat → List UInt8) (first : Nat) : Nat := if pairSlot (anchorN (f first)) (anchorN (f (first + 1))) = 0 then 1 else 0
def anchNow (f : Nat → List UInt8) (first v : Nat) : Nat → List UInt8 := upd f (first + anchSlot f first) (sealOver (f (first + anchSlot f first)) (leB v 8))
def Lg.anch (L : Lg) (ep tl : Nat) : Lg := { L with epoch := ep, tail := tl }
def Dead (d du mp : Nat) (D : Dk) (w w' : World) : Prop := ∃ base D', DiskAt w' d du mp base D' ∧ D'.burnt = true ∧ D'.S = D.S ∧ D.life ≤ D'.life ∧ Kept [d, du, mp] w w'
def AnchPost (d du mp base g : Nat) (D : Dk) (L : Lg) (ep tl : Nat) (w : World) (e : Ending) (w' : World) : Prop :=
  (e = .returned (.int .i64 3) ∧ Dead d du mp D w w') ∨
  (e = .returned (.int .i64 0) ∧ ∃ D', DiskAt w' d du mp base D' ∧ Sim D D' ∧ Flushed D' (anchNow D.now L.first (ep * 4294967296 + tl)) ∧ LogAt w' g d (L.anch ep tl) ∧ Kept [d, du, mp, g] w w')

/-- The rest of it: the sector is written, and a barrier behind it. -/
structure AnchIn (d du mp base g : Nat) (D : Dk) (L : Lg) (ep tl : Nat) (w : World) : Prop where
  disk : DiskAt w d du mp base D
  log : LogAt w g d L
  gd : g ≠ d ∧ g ≠ du ∧ g ≠ mp ∧ g < base
  first : L.first + 1 < D.S
  left : Bodied (D.now L.first)
  right : Bodied (D.now (L.first + 1))
  epB : 1 ≤ ep ∧ ep ≤ 1000000000
  tlB : tl ≤ 1073741824
  newL : anchorN (D.now L.first) < ep * 4294967296 + tl
  newR : anchorN (D.now (L.first + 1)) < ep * 4294967296 + tl
  pend : D.pend L.first = none ∧ D.pend (L.first + 1) = none
  np : D.np < 59000
set_option maxRecDepth 100000 in
set_option maxHeartbeats 2000000 in
theorem anchor_walk (d du mp base g : Nat) (D : Dk) (L : Lg) (ep tl : Nat) (w : World) (h : AnchIn d du mp base g D L ep tl w) :
    Calls Tryz.prog 87 #[.pointer (some ⟨g, 0, none⟩), .int .i64 ep, .int .i64 tl] w (AnchPost d du mp base g D L ep tl w) := by
  have H := Lib.hid h
  have HP := Lib.hid (pairL_walk d du mp base g D L w h.disk h.log h.gd.1 h.first)
  have hep := h.epB
  have htl := h.tlB
  have hgd := h.gd
  have hlow := h.disk.low
  clear h
  go_enter Tryz.func87, Tryz.ntmps87
  go_wp2_with fail
  refine HP.out.mono ?_
  rintro e w1 hpost
  rcases hpost with ⟨hb, rfl, hk⟩ | ⟨hb, g1, g2, hg1, hg2, rfl, hB1, hB2, hD1, hk1⟩
  · have HK := Lib.hid hk
    clear hk
    go_wp2
    go_ret
    exact .inl ⟨rfl, base, D, H.out.disk.kept0 HK.out, hb, rfl, Nat.le_refl _, HK.out.mono (by simp)⟩
  · have hv : ((ep * 4294967296 + tl : Nat) : Int) = (ep : Int) * 4294967296 + (tl : Int) := by omega
    have hrn := renew_walk (D.now L.first) (D.now (L.first + 1)) g1 0 512 g2 0 512 (ep * 4294967296 + tl) w1 hB1.at hB2.at H.out.left H.out.right (by omega) (by omega) H.out.newL H.out.newR
    rw [hv] at hrn
    have HRN := Lib.hid hrn
    have HD1 := Lib.hid hD1
    have HK1 := Lib.hid hk1
    clear hrn hv hB1 hB2 hD1 hk1 hg1 hg2
    go_wp2_with fail
    refine HRN.out.mono ?_
    rintro e w2 ⟨hk2, g3, hg3, hpost⟩
    have HD2 := Lib.hid (HD1.out.kept0 hk2)
    have HK2 := Lib.hid (HK1.out.trans hk2 (by simp))
    have HL2 := Lib.hid (H.out.log.kept HK2.out (by simp; exact hgd.1))
    clear hk2 hg3
    obtain ⟨s, hs, hcase⟩ : ∃ s : Nat, s = anchSlot D.now L.first ∧ e = .returned (.tuple #[.int .i64 s, .slice (some ⟨g3, 0, none⟩) 512 512, .int .i64 0]) ∧ BytesT w2 g3 299 (sealOver (D.now (L.first + s)) (leB (ep * 4294967296 + tl) 8)) := by
      rcases hpost with ⟨h0, he, hB⟩ | ⟨h0, he, hB⟩
      · exact ⟨1, by unfold anchSlot; rw [if_pos h0], he, hB⟩
      · exact ⟨0, by unfold anchSlot; rw [if_neg h0], he, hB⟩
    obtain ⟨rfl, hB⟩ := hcase
    have hs1 : s ≤ 1 := by rw [hs]; unfold anchSlot; split <;> omega
    have HS := Lib.hid hs
    clear hpost hs
    have hsl : (sealOver (D.now (L.first + s)) (leB (ep * 4294967296 + tl) 8)).length = 512 := sealOver_length _ (by rw [leB_length]; omega)
    have hpe : D.read.read.pend (L.first + s) = none := by
      rcases (show s = 0 ∨ s = 1 by omega) with rfl | rfl
      · exact H.out.pend.1
      · exact H.out.pend.2
    have hwr := write_walk d du mp base D.read.read w2.drew HD2.out.drew (L.first + s) (by have := H.out.first; show L.first + s < D.S; omega) _ (some ⟨g3, 0, none⟩) 512 hB.at hsl hpe (by have := H.out.np; show D.np < 60000; omega)
    have hf := H.out.log.first
    obtain ⟨c0, c1, _⟩ := HL2.out.cells
    have hlt := lt_whole HL2.out.blk
    have hfs : ((L.first + s : Nat) : Int) = (L.first : Int) + (s : Int) := by omega
    rw [hfs] at hwr
    have HW := Lib.hid hwr
    have HNOW := Lib.hid (show (D.read.read.write (L.first + s) (sealOver (D.now (L.first + s)) (leB (ep * 4294967296 + tl) 8))).now = anchNow D.now L.first (ep * 4294967296 + tl) by
      rw [now_write, HS.out]; rfl)
    clear hwr hfs hpe hsl hB
    generalize sealOver (D.now (L.first + s)) (leB (ep * 4294967296 + tl) 8) = sec at *
    generalize hfi : L.first = f at *
    have HFI := Lib.hid hfi
    clear hfi
    go_wp2_with fail
    refine wp_canon (by kernel_rfl) (by kernel_rfl) ?_
    go_wp2_with fail
    refine HW.out.mono ?_
    rintro e w3 hpost
    rcases hpost with ⟨hb3, _, _⟩ | ⟨_, rfl, hD3, hk3⟩
    · have : D.burnt = true := hb3
      rw [hb] at this; cases this
    · have HD3 := Lib.hid hD3
      have HK3 := Lib.hid (HK2.out.mono (G := [d, mp]) (by simp) |>.drew.trans hk3 (by simp))
      have HL3 := Lib.hid (HL2.out.kept ((Kept.refl [d, mp] w2).drew.trans hk3 (by simp)) (by simp; exact ⟨hgd.1, hgd.2.2.1⟩))
      have HFL := Lib.hid (flush_walk d du mp base _ w3 hD3)
      obtain ⟨d0, d1, _⟩ := HL3.out.cells
      have hlt3 := lt_whole HL3.out.blk
      clear hD3 hk3 c0 c1 hlt
      go_wp2
      refine ⟨rfl, ?_⟩
      go_wp2_with fail
      refine HFL.out.mono ?_
      rintro e w4 hpost
      rcases hpost with ⟨hb4, rfl, hk4⟩ | ⟨_, rfl, hD4, hk4⟩
      · have HK4 := Lib.hid hk4
        clear hk4
        go_wp2
        go_ret
        exact .inl ⟨rfl, base, _, HD3.out.kept0 HK4.out, hb4, rfl, Nat.le_refl _, (HK3.out.mono (G := [d, du, mp]) (by simp)).trans HK4.out (by simp)⟩
      · have HK4 := Lib.hid ((HK3.out.mono (G := [d, du, mp, g]) (by simp)).trans hk4 (by simp))
        have HL4 := Lib.hid (HL3.out.kept hk4 (by simp; exact ⟨hgd.1, hgd.2.1, hgd.2.2.1⟩))
        have HD4 := Lib.hid hD4
        have f4 := frozen_whole HL4.out.blk 4
        have f6 := frozen_whole HL4.out.blk 6
        obtain ⟨_, _, _, _, e4, _, e6, _⟩ := HL4.out.cells
        have hlt4 := lt_whole HL4.out.blk
        clear hk4 hD4 d0 d1 hlt3
        go_wp2
        go_ret
        have hkg := ((Kept.refl [g] w4).setCell ⟨g, 4, none⟩ (.int .i64 ep) (.inl (by simp))).setCell ⟨g, 6, none⟩ (.int .i64 tl) (.inl (by simp))
        refine .inr ⟨rfl, _, HD4.out.kept hkg (by simp; exact fun e => hgd.1 e.symm) (by simp; exact fun e => hgd.2.1 e.symm) (by simp; exact fun e => hgd.2.2.1 e.symm) (by simp; exact hgd.2.2.2), (((Sim.read D).trans (Sim.read _)).trans (Sim.write _ _ _)).trans (Sim.flush _), ?_, ⟨?_, HL4.out.first, HL4.out.n, HL4.out.life, by show ep ≤ _; omega, HL4.out.top, htl, HL4.out.head⟩, HK4.out.trans hkg (by simp)⟩
        · have := Flushed.flush (D.read.read.write (f + s) sec)
          rw [HNOW.out] at this
          rw [HFI.out]
          exact this
        · rw [set_whole (i := 6) (set_whole (i := 4) HL4.out.blk (.int .i64 ep)) (.int .i64 tl)]
          rfl
end Go.Proofs.YtikfphojehgpjaaGreatDoor
/- wal: Format. -/
namespace Go.Proofs.YtikfphojehgpjaaGreatDoor
open Go.RowKit Vl Go.Maps Go.ChangeMaps
set_option linter.unusedVariables false

/-- Zeros from 'first' on, k sectors. -/
def zrange (f : Nat → List UInt8) (first k : Nat) : Nat → List UInt8 := fun i => if first ≤ i ∧ i < first + k then zsec else f i
theorem zrange_zero (f : Nat → List UInt8) (first : Nat) : zrange f first 0 = f := by
  funext i; exact if_neg (by omega)
theorem zrange_next (f : Nat → List UInt8) (first k : Nat) : upd (zrange f first k) (first + k) zsec = zrange f first (k + 1) := by
  funext i
  by_cases h : i = first + k
  · subst h; rw [upd_same]; exact (if_pos (by omega)).symm
  · rw [upd_other _ _ h]
    unfold zrange
    by_cases h2 : first ≤ i ∧ i < first + k
    · rw [if_pos h2, if_pos (by omega)]
    · rw [if_neg h2, if_neg (by omega)]
theorem make_sec (w : World) : (Instr.makeSlice 22 (.int .i64 512) (.int .i64 512)).run Tryz.prog w = .ok (.slice (some ⟨w.heap.size, 0, none⟩) 512 512) (w.alloc (.cells (bcells zsec).toArray 5)) := make_sector w

def fmtLog (first n life : Nat) : Lg := { first := first, n := n, life := life, epoch := 0, top := 0, tail := 0, head := 0, started := false }
def WFmtPost (d du mp : Nat) (D : Dk) (first n : Nat) (w : World) (e : Ending) (w' : World) : Prop :=
  (e = .returned (.int .i64 3) ∧ Dead d du mp D w w') ∨
  (e = .returned (.int .i64 0) ∧ ∃ base D', DiskAt w' d du mp base D' ∧ Sim D.take D' ∧ Flushed D' (anchNow (zrange D.now first (2 + n)) first 4294967296) ∧ Kept [d, du, mp] w w')
set_option maxRecDepth 100000 in
set_option maxHeartbeats 2000000 in
theorem wformat_walk (d du mp base : Nat) (D : Dk) (first n : Nat) (w : World) (h : DiskAt w d du mp base D) (hf : first < D.S) (hn : 18 ≤ n ∧ n ≤ 256) (hfn : first + 2 + n ≤ D.S)
    (hp : ∀ i, D.pend i = none) (hnp : D.np = 0) (hlf : D.life < 1000000) :
    Calls Tryz.prog 37 #[.pointer (some ⟨d, 0, none⟩), .int .i64 first, .int .i64 n] w (WFmtPost d du mp D first n w) := by
  have H := Lib.hid h
  have HPL := Lib.hid (place_walk d du mp base D w h first n hf hn hfn)
  have HT := Lib.hid (take_walk d du mp base D w h hlf)
  have HPE := Lib.hid hp
  have HNP := Lib.hid hnp
  have hS := h.pos
  have hlow := h.low
  have hbl := h.base_le
  have hdl := lt_whole h.blk
  clear h hp hnp
  cases hb : D.burnt with
  | true =>
    rw [hb] at HPL
    go_enter Tryz.func37, Tryz.ntmps37
    go_wp2_with fail
    refine HPL.out.mono ?_
    rintro e w1 ⟨rfl, rfl⟩
    simp only [if_true]
    go_wp2
    go_ret
    exact .inl ⟨rfl, base, D, H.out, hb, rfl, Nat.le_refl _, Kept.refl _ _⟩
  | false =>
    rw [hb] at HPL
    go_enter Tryz.func37, Tryz.ntmps37
    go_wp2_with fail
    refine HPL.out.mono ?_
    rintro e w1 ⟨rfl, rfl⟩
    simp only [Bool.false_eq_true, if_false]
    go_wp2_with fail
    refine HT.out.mono ?_
    rintro e w2 ⟨rfl, hD2, hk2⟩
    have HD2 := Lib.hid hD2
    have HK2 := Lib.hid hk2
    clear hD2 hk2 HT HPL
    go_upto_region 5 with fail
    have hl0 : LogAt (w2.alloc (.cells #[.pointer (some ⟨d, 0, none⟩), .int .i64 first, .int .i64 n, .int .i64 ((D.life : Int) + 1), .int .i64 0, .int .i64 0, .int .i64 0, .int .i64 0, .bool false] 174)) w2.heap.size d (fmtLog first n (D.life + 1)) :=
      ⟨heap_alloc_new w2 _, by show first ≤ 4096; omega, hn, by show D.life + 1 ≤ 1000000; omega, Nat.zero_le _, Nat.zero_le _, Nat.zero_le _, Nat.zero_le _⟩
    have hk3 := HK2.out.alloc (.cells #[.pointer (some ⟨d, 0, none⟩), .int .i64 first, .int .i64 n, .int .i64 ((D.life : Int) + 1), .int .i64 0, .int .i64 0, .int .i64 0, .int .i64 0, .bool false] 174)
    have hd3 := HD2.out.kept0 ((Kept.refl [] w2).alloc (.cells #[.pointer (some ⟨d, 0, none⟩), .int .i64 first, .int .i64 n, .int .i64 ((D.life : Int) + 1), .int .i64 0, .int .i64 0, .int .i64 0, .int .i64 0, .bool false] 174))
    have hw2 := HK2.out.size
    have hlg : w2.heap.size < (w2.alloc (.cells #[.pointer (some ⟨d, 0, none⟩), .int .i64 first, .int .i64 n, .int .i64 ((D.life : Int) + 1), .int .i64 0, .int .i64 0, .int .i64 0, .int .i64 0, .bool false] 174)).heap.size := by rw [size_alloc]; omega
    generalize w2.alloc (.cells #[.pointer (some ⟨d, 0, none⟩), .int .i64 first, .int .i64 n, .int .i64 ((D.life : Int) + 1), .int .i64 0, .int .i64 0, .int .i64 0, .int .i64 0, .bool false] 174) = w3 at *
    have hd3b := hd3.rebase HPE.out (b := w3.heap.size) hd3.base_le (Nat.le_refl _)
    generalize hg : w2.heap.size = g at *
    have HGW := Lib.hid hw2
    have HL3 := Lib.hid hl0
    have HD3 := Lib.hid hd3b
    have HK3 := Lib.hid hk3
    generalize hbs : w3.heap.size = base3 at *
    have hms := make_sec w3
    have HB4 := Lib.hid (show Bytes (w3.alloc (.cells (bcells zsec).toArray 5)) w3.heap.size zsec from heap_alloc_new w3 _)
    have HK4 := Lib.hid ((Kept.refl [] w3).alloc (.cells (bcells zsec).toArray 5))
    clear hl0 hk3 hd3 hd3b hw2 hg
    go_upto_region 6 with fail
    generalize w3.alloc (.cells (bcells zsec).toArray 5) = w4 at *
    have HD4 := Lib.hid (HD3.out.kept0 HK4.out)
    rw [hbs] at HB4
    have HBS := Lib.hid hbs
    clear hms hbs
    go_wp2_with fail
    go_loopw [10, 11] (fun v10 _ wr => ∃ (k : Nat) (E : Dk), k ≤ 2 + n ∧ v10 = .int .i64 ((first + k : Nat) : Int) ∧ DiskAt wr d du mp base3 E ∧ Sim D.take E ∧ E.now = zrange D.now first k ∧ (∀ i, first + k ≤ i → E.pend i = none) ∧ E.np = k ∧ Kept [d, mp] w4 wr) (fun v10 _ _ => first + 2 + n - (intOf v10).toNat)
    case atStart => exact ⟨0, D.take, by omega, rfl, HD4.out, Sim.refl _, (zrange_zero _ _).symm, fun i _ => HPE.out i, HNP.out, Kept.refl _ _⟩
    case round =>
      obtain ⟨k, E, hk, rfl, hd, hsim, hnow, hpe, hnp, hkk⟩ := hrel
      have HDE := Lib.hid hd
      have HSI := Lib.hid hsim
      have HNO := Lib.hid hnow
      have HPD := Lib.hid hpe
      have HNPE := Lib.hid hnp
      have HKK := Lib.hid hkk
      have hlow3 := hd.low
      have HKW : Hid (Kept [d, du, mp] w1 wr) := Lib.hid (((HK3.out.mono (G := [d, du, mp]) (by simp)).trans HK4.out (by simp)).trans hkk (by simp))
      have HZ : Hid (Bytes wr base3 zsec) := Lib.hid (HB4.out.kept hkk (by simp; omega))
      have hdl4 := lt_whole hd.blk
      clear hd hsim hnow hpe hnp hkk
      by_cases hkn : k < 2 + n
      · have hwr := write_walk d du mp base3 E wr HDE.out (first + k) (by rw [HSI.out.S]; show first + k < D.S; omega) zsec (some ⟨base3, 0, none⟩) 512 HZ.out.at zsec_length (HPD.out _ (Nat.le_refl _)) (by rw [HNPE.out]; omega)
        have HWR := Lib.hid hwr
        have hcast : ((first + k : Nat) : Int) = (first : Int) + (k : Int) := by omega
        clear hwr
        go_wp2_with fail
        refine HWR.out.mono ?_
        rintro e w5 hpost
        rcases hpost with ⟨hb5, rfl, hk5⟩ | ⟨hb5, rfl, hd5, hk5⟩
        · have HK5 := Lib.hid hk5
          clear hk5 hcast
          go_wp2
          go_ret
          exact .inl ⟨rfl, base3, E, HDE.out.kept0 HK5.out, hb5, HSI.out.S, by rw [HSI.out.life]; show D.life ≤ D.life + 1; omega, HKW.out.trans HK5.out (by simp)⟩
        · have HD5 := Lib.hid hd5
          have HK5 := Lib.hid (HKK.out.trans hk5 (by simp))
          have HNEW := Lib.hid (now_write E (first + k) zsec)
          clear hk5 hd5 hcast
          go_wp2
          go_roundw
          case rel =>
            refine ⟨k + 1, E.write (first + k) zsec, by omega, by go_num, HD5.out, HSI.out.trans (Sim.write _ _ _), ?_, ?_, ?_, HK5.out⟩
            · rw [HNEW.out, HNO.out, zrange_next]
            · intro i hi
              show upd E.pend (first + k) (some zsec) i = none
              rw [upd_other _ _ (by omega)]
              exact HPD.out i (by omega)
            · show E.np + 1 = k + 1
              rw [HNPE.out]
          case measure => simp [intOf]; omega
      · obtain rfl : k = 2 + n := by omega
        have HFL := Lib.hid (flush_walk d du mp base3 E wr HDE.out)
        have hcast : ((first + (2 + n) : Nat) : Int) = (first : Int) + 2 + (n : Int) := by omega
        rw [hcast]
        clear hcast hkn
        go_wp2_with fail
        refine HFL.out.mono ?_
        rintro e w5 hpost
        rcases hpost with ⟨hb5, rfl, hk5⟩ | ⟨hb5, rfl, hd5, hk5⟩
        · have HK5 := Lib.hid hk5
          clear hk5
          go_wp2
          go_ret
          exact .inl ⟨rfl, base3, E, HDE.out.kept0 HK5.out, hb5, HSI.out.S, by rw [HSI.out.life]; show D.life ≤ D.life + 1; omega, HKW.out.trans HK5.out (by simp)⟩
        · have hfl := Flushed.flush E
          rw [HNO.out] at hfl
          have hnow5 := hfl.now
          have hg1 : g ≠ d ∧ g ≠ du ∧ g ≠ mp ∧ g < base3 := by
            have h1 := HGW.out
            omega
          have hl5 : LogAt w5 g d (fmtLog first n (D.life + 1)) :=
            HL3.out.kept (F := [d, du, mp]) ((HK4.out.mono (G := [d, du, mp]) (by simp)).trans (HKK.out.trans (F := [d, mp]) (Kept.refl [d, mp] wr) (by simp) |>.mono (G := [d, du, mp]) (by simp)) (by simp) |>.trans hk5 (by simp)) (by simp; exact ⟨hg1.1, hg1.2.1, hg1.2.2.1⟩)
          have hz1 : zrange D.now first (2 + n) first = zsec := if_pos (by omega)
          have hz2 : zrange D.now first (2 + n) (first + 1) = zsec := if_pos (by omega)
          have hin : AnchIn d du mp base3 g E.flush (fmtLog first n (D.life + 1)) 1 0 w5 :=
            ⟨hd5, hl5, hg1, by rw [(Sim.flush E).S, HSI.out.S]; show first + 1 < D.S; omega, by rw [hnow5]; show Bodied (zrange D.now first (2 + n) first); rw [hz1]; exact zsec_bodied, by rw [hnow5]; show Bodied (zrange D.now first (2 + n) (first + 1)); rw [hz2]; exact zsec_bodied,
              by omega, by omega, by rw [hnow5]; show anchorN (zrange D.now first (2 + n) first) < _; rw [hz1, anchorN_zero]; omega, by rw [hnow5]; show anchorN (zrange D.now first (2 + n) (first + 1)) < _; rw [hz2, anchorN_zero]; omega, ⟨hfl.pend _, hfl.pend _⟩, by rw [hfl.np]; omega⟩
          have HAN : Hid (Calls Tryz.prog 87 #[.pointer (some ⟨g, 0, none⟩), .int .i64 1, .int .i64 0] w5 (AnchPost d du mp base3 g E.flush (fmtLog first n (D.life + 1)) 1 0 w5)) := Lib.hid (anchor_walk d du mp base3 g E.flush (fmtLog first n (D.life + 1)) 1 0 w5 hin)
          have HNOW5 := Lib.hid hnow5
          have HK5 := Lib.hid (HKW.out.trans hk5 (by simp))
          clear hin hz1 hz2 hl5 hg1 hnow5 hfl hd5 hk5
          go_wp2_with fail
          refine HAN.out.mono ?_
          rintro e w6 hpost
          rcases hpost with ⟨rfl, base6, D6, h1, h2, h3, h4, h5⟩ | ⟨rfl, D6, h1, h2, h3, h4, h5⟩
          · have HX := Lib.hid (show WFmtPost d du mp D first n w1 (.returned (.int .i64 3)) w6 from .inl ⟨rfl, base6, D6, h1, h2, by rw [h3, (Sim.flush E).S, HSI.out.S]; rfl, Nat.le_trans (by rw [(Sim.flush E).life, HSI.out.life]; show D.life ≤ D.life + 1; omega) h4, HK5.out.trans h5 (by simp)⟩)
            clear h1 h2 h3 h4 h5
            go_wp2
            go_ret
            exact HX.out
          · have HX := Lib.hid (show WFmtPost d du mp D first n w1 (.returned (.int .i64 0)) w6 from .inr ⟨rfl, base3, D6, h1, (HSI.out.trans (Sim.flush E)).trans h2, by rw [HNOW5.out] at h3; exact h3, HK5.out.trans h5 (by simp; exact .inr HGW.out)⟩)
            clear h1 h2 h3 h4 h5
            go_wp2
            go_ret
            exact HX.out
end Go.Proofs.YtikfphojehgpjaaGreatDoor
/- store: zeroed; Format's closures. -/
namespace Go.Proofs.YtikfphojehgpjaaGreatDoor
open Go.RowKit Vl Go.Maps Go.ChangeMaps
set_option linter.unusedVariables false

def ZeroedPost (d du mp base : Nat) (D : Dk) (w : World) (e : Ending) (w' : World) : Prop :=
  (e = .returned (.int .i64 3) ∧ Dead d du mp D w w') ∨
  (e = .returned (.int .i64 0) ∧ ∃ D', DiskAt w' d du mp base D' ∧ Sim D D' ∧ D'.now = zrange D.now 1 (D.S - 1) ∧ Kept [d, du, mp] w w')
set_option maxRecDepth 100000 in
set_option maxHeartbeats 2000000 in
theorem zeroed_walk (d du mp base : Nat) (D : Dk) (w : World) (h : DiskAt w d du mp base D) (hp : ∀ i, D.pend i = none) (hnp : D.np = 0) :
    Calls Tryz.prog 35 #[.pointer (some ⟨d, 0, none⟩), .int .i64 1] w (ZeroedPost d du mp base D w) := by
  have H := Lib.hid h
  have HPE := Lib.hid hp
  have HNP := Lib.hid hnp
  have hS := h.pos
  have hlow := h.low
  have hbl := h.base_le
  have hdl := lt_whole h.blk
  have hms := make_sec w
  have HK1 := Lib.hid ((Kept.refl [] w).alloc (.cells (bcells zsec).toArray 5))
  have HB1 := Lib.hid (show Bytes (w.alloc (.cells (bcells zsec).toArray 5)) w.heap.size zsec from heap_alloc_new w _)
  have HD1 := Lib.hid (h.kept0 HK1.out)
  clear h hp hnp
  go_enter Tryz.func35, Tryz.ntmps35
  go_upto_region 2 with fail
  generalize w.alloc (.cells (bcells zsec).toArray 5) = w1 at *
  generalize hz : w.heap.size = z at *
  have HZ := Lib.hid (Nat.le_of_eq hz)
  clear hms hz
  go_wp2_with fail
  go_loopw [6, 7] (fun v6 _ wr => ∃ (k : Nat) (E : Dk), 1 + k ≤ D.S ∧ v6 = .int .i64 ((1 + k : Nat) : Int) ∧ DiskAt wr d du mp base E ∧ Sim D E ∧ E.now = zrange D.now 1 k ∧ (∀ i, 1 + k ≤ i → E.pend i = none) ∧ E.np = k ∧ Kept [d, mp] w1 wr) (fun v6 _ _ => D.S - (intOf v6).toNat)
  case atStart => exact ⟨0, D, by omega, rfl, HD1.out, Sim.refl _, (zrange_zero _ _).symm, fun i _ => HPE.out i, HNP.out, Kept.refl _ _⟩
  case round =>
    obtain ⟨k, E, hk, rfl, hd, hsim, hnow, hpe, hnp, hkk⟩ := hrel
    have HDE := Lib.hid hd
    have HSI := Lib.hid hsim
    have HNO := Lib.hid hnow
    have HPD := Lib.hid hpe
    have HNPE := Lib.hid hnp
    have HKK := Lib.hid hkk
    have HKW : Hid (Kept [d, du, mp] w wr) := Lib.hid ((HK1.out.mono (G := [d, du, mp]) (by simp)).trans hkk (by simp))
    have HZB : Hid (Bytes wr z zsec) := Lib.hid (HB1.out.kept hkk (by simp; omega))
    have HSE := Lib.hid (sectors_walk d du mp base E wr hd)
    rw [hsim.S] at HSE
    have hdl4 := lt_whole hd.blk
    have hcast : ((1 + k : Nat) : Int) = 1 + (k : Int) := by omega
    clear hd hsim hnow hpe hnp hkk
    go_wp2_with fail
    refine HSE.out.mono ?_
    rintro e w2 ⟨rfl, rfl⟩
    by_cases hkn : 1 + k < D.S
    · have hwr := write_walk d du mp base E w2 HDE.out (1 + k) (by rw [HSI.out.S]; omega) zsec (some ⟨z, 0, none⟩) 512 HZB.out.at zsec_length (HPD.out _ (Nat.le_refl _)) (by rw [HNPE.out]; omega)
      rw [hcast] at hwr
      have HWR := Lib.hid hwr
      have t1 : decide (1 + (k : Int) < (D.S : Int)) = true := decide_eq_true (by omega)
      clear hwr hcast
      go_wp2_with fail
      refine HWR.out.mono ?_
      rintro e w5 hpost
      rcases hpost with ⟨hb5, rfl, hk5⟩ | ⟨hb5, rfl, hd5, hk5⟩
      · have HK5 := Lib.hid hk5
        clear hk5
        go_wp2
        go_ret
        exact .inl ⟨rfl, base, E, HDE.out.kept0 HK5.out, hb5, HSI.out.S, Nat.le_of_eq HSI.out.life.symm, HKW.out.trans HK5.out (by simp)⟩
      · have HD5 := Lib.hid hd5
        have HK5 := Lib.hid (HKK.out.trans hk5 (by simp))
        have HNEW := Lib.hid (now_write E (1 + k) zsec)
        clear hk5 hd5
        go_wp2
        go_roundw
        case rel =>
          refine ⟨k + 1, E.write (1 + k) zsec, by omega, by go_num, HD5.out, HSI.out.trans (Sim.write _ _ _), ?_, ?_, ?_, HK5.out⟩
          · rw [HNEW.out, HNO.out, zrange_next]
          · intro i hi
            show upd E.pend (1 + k) (some zsec) i = none
            rw [upd_other _ _ (by omega)]
            exact HPD.out i (by omega)
          · show E.np + 1 = k + 1
            rw [HNPE.out]
        case measure => simp [intOf]; omega
    · have HKE : Hid (k = D.S - 1) := Lib.hid (by omega)
      have t1 : decide (1 + (k : Int) < (D.S : Int)) = false := decide_eq_false (by omega)
      rw [hcast]
      clear hcast hkn
      go_wp2
      go_ret
      exact .inr ⟨rfl, E, HDE.out, HSI.out, by rw [HNO.out, HKE.out], HKW.out⟩

/-! The closures. -/
/-- What is handed on as it came. -/
def Val (R : Ending → World → Prop) (e : Ending) (w' : World) : Prop := ∃ n, e = .returned (.int .i64 n) ∧ R e w'
theorem fc1_walk (b c d : Nat) (v : Value) (w : World) (R : Ending → World → Prop) (hb : w.cell? ⟨b, 0, none⟩ = some (.pointer (some ⟨d, 0, none⟩))) (hc : w.cell? ⟨c, 0, none⟩ = some v)
    (h : Calls Tryz.prog 32 #[.pointer (some ⟨d, 0, none⟩), .int .i64 0, v] w (Val R)) : Calls Tryz.prog 31 #[.pointer (some ⟨b, 0, none⟩), .pointer (some ⟨c, 0, none⟩)] w R := by
  have H := Lib.hid h
  clear h
  go_enter Tryz.func31, Tryz.ntmps31
  go_wp2_with fail
  refine H.out.mono ?_
  rintro e w' ⟨n, rfl, hr⟩
  have HR := Lib.hid hr
  clear hr
  go_wp2
  exact HR.out
theorem fc4_walk (b c d : Nat) (v : Value) (w : World) (R : Ending → World → Prop) (hb : w.cell? ⟨b, 0, none⟩ = some (.pointer (some ⟨d, 0, none⟩))) (hc : w.cell? ⟨c, 0, none⟩ = some v)
    (h : Calls Tryz.prog 32 #[.pointer (some ⟨d, 0, none⟩), .int .i64 0, v] w (Val R)) : Calls Tryz.prog 38 #[.pointer (some ⟨b, 0, none⟩), .pointer (some ⟨c, 0, none⟩)] w R := by
  have H := Lib.hid h
  clear h
  go_enter Tryz.func38, Tryz.ntmps38
  go_wp2_with fail
  refine H.out.mono ?_
  rintro e w' ⟨n, rfl, hr⟩
  have HR := Lib.hid hr
  clear hr
  go_wp2
  exact HR.out
theorem fc2_walk (b d : Nat) (w : World) (R : Ending → World → Prop) (hb : w.cell? ⟨b, 0, none⟩ = some (.pointer (some ⟨d, 0, none⟩)))
    (h : Calls Tryz.prog 35 #[.pointer (some ⟨d, 0, none⟩), .int .i64 1] w (Val R)) : Calls Tryz.prog 34 #[.pointer (some ⟨b, 0, none⟩)] w R := by
  have H := Lib.hid h
  clear h
  go_enter Tryz.func34, Tryz.ntmps34
  go_wp2_with fail
  refine H.out.mono ?_
  rintro e w' ⟨n, rfl, hr⟩
  have HR := Lib.hid hr
  clear hr
  go_wp2
  exact HR.out
theorem fc3_walk (b c d : Nat) (v : Value) (w : World) (R : Ending → World → Prop) (hb : w.cell? ⟨b, 0, none⟩ = some (.pointer (some ⟨d, 0, none⟩))) (hc : w.cell? ⟨c, 1, none⟩ = some v)
    (h : Calls Tryz.prog 37 #[.pointer (some ⟨d, 0, none⟩), .int .i64 1, v] w (Val R)) : Calls Tryz.prog 36 #[.pointer (some ⟨b, 0, none⟩), .pointer (some ⟨c, 0, none⟩)] w R := by
  have H := Lib.hid h
  clear h
  go_enter Tryz.func36, Tryz.ntmps36
  go_wp2_with fail
  refine H.out.mono ?_
  rintro e w' ⟨n, rfl, hr⟩
  have HR := Lib.hid hr
  clear hr
  go_wp2
  exact HR.out
end Go.Proofs.YtikfphojehgpjaaGreatDoor
