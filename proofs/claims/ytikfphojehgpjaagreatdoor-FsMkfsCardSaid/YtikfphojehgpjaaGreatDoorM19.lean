/- store: Open, over what Format has laid. -/
import Derived.Test.YtikfphojehgpjaaGreatDoorM17
import Derived.Test.YtikfphojehgpjaaGreatDoorM16
import Derived.Test.YtikfphojehgpjaaGreatDoorM18
import Derived.WalkSmall
set_option linter.unusedSimpArgs false
set_option linter.unusedVariables false
namespace Go.Proofs.YtikfphojehgpjaaGreatDoor
open Go.RowKit Vl Go.Maps Go.ChangeMaps
set_option linter.unusedVariables false

/-- The disk's own struct. -/
structure DiskW (w : World) (d du mp : Nat) (D : Dk) : Prop where
  blk : w.heap[d]? = some (.cells (diskCells D du mp) 46 (0, 0))
  lft : D.left ≤ 9223372036854775807
  lif : D.life ≤ 1000000
  rng : IntOk D.rd ∧ IntOk D.wr ∧ IntOk D.fl ∧ IntOk D.rf ∧ IntOk D.pe
theorem DiskAt.weak {w : World} {d du mp base : Nat} {D : Dk} (h : DiskAt w d du mp base D) : DiskW w d du mp D := ⟨h.blk, h.lft, h.lif, h.rng⟩
/-- The disk is burnt. -/
def DeadW (d du mp : Nat) (D : Dk) (w w' : World) : Prop := ∃ D', DiskW w' d du mp D' ∧ D'.burnt = true ∧ D'.S = D.S ∧ D.life ≤ D'.life ∧ Kept [d, du, mp] w w'
theorem Dead.weak {d du mp : Nat} {D : Dk} {w w' : World} (h : Dead d du mp D w w') : DeadW d du mp D w w' := by
  obtain ⟨b, D', h1, h2, h3, h4, h5⟩ := h
  exact ⟨D', h1.weak, h2, h3, h4, h5⟩
theorem DeadW.now {d du mp base : Nat} {D D1 : Dk} {w w1 : World} {F : List Nat} (h : DiskAt w1 d du mp base D1) (hb : D1.burnt = true) (hS : D1.S = D.S) (hl : D.life ≤ D1.life) (hk : Kept F w w1) (hF : ∀ x ∈ F, x ∈ [d, du, mp] ∨ w.heap.size ≤ x) : DeadW d du mp D w w1 :=
  ⟨D1, h.weak, hb, hS, hl, hk.mono hF⟩
theorem DeadW.to {d du mp : Nat} {D : Dk} {w w1 w2 : World} {F : List Nat} (h : DeadW d du mp D w w1) (hk : Kept F w1 w2) (hF : ∀ x ∈ F, x ∈ [d, du, mp] ∨ w.heap.size ≤ x) (hd : d ∉ F) : DeadW d du mp D w w2 := by
  obtain ⟨D', h1, h2, h3, h4, h5⟩ := h
  exact ⟨D', ⟨hk.keep h1.blk hd, h1.lft, h1.lif, h1.rng⟩, h2, h3, h4, h5.trans hk hF⟩
theorem DeadW.from {d du mp : Nat} {D D1 : Dk} {w w1 w2 : World} {F : List Nat} (h : DeadW d du mp D1 w1 w2) (hS : D1.S = D.S) (hl : D.life ≤ D1.life) (hk : Kept F w w1) (hF : ∀ x ∈ F, x ∈ [d, du, mp] ∨ w.heap.size ≤ x) : DeadW d du mp D w w2 := by
  obtain ⟨D', h1, h2, h3, h4, h5⟩ := h
  exact ⟨D', h1, h2, h3.trans hS, Nat.le_trans hl h4, (hk.mono (G := [d, du, mp]) hF).trans h5 (fun x hx => .inl hx)⟩
theorem caughtO_kept {r0 r1 : Nat} (n : Int) (w : World) : Kept [r0, r1] w (caughtO r0 r1 n w) := ((Kept.refl [r0, r1] w).setCell _ _ (.inl (by simp))).setCell _ _ (.inl (by simp))
/-- Where things lie. -/
structure Lay where
  log : Nat
  home : Nat
  blocks : Nat
  nodes : Nat
  data : Nat
def layOf (S L N : Nat) : Lay := ⟨L, 3 + L, S - (3 + L), N, 2 + N / 4⟩
def Lay.vals (Y : Lay) : Array Value := #[.int .i64 Y.log, .int .i64 Y.home, .int .i64 Y.blocks, .int .i64 Y.nodes, .int .i64 Y.data]
structure Geo (S L N : Nat) : Prop where
  l1 : 18 ≤ L
  l2 : L ≤ 256
  n1 : 4 ≤ N
  n2 : N ≤ 1024
  n4 : N % 4 = 0
  s1 : S ≤ 2048
  s2 : 3 + L + (2 + N / 4) + 1 ≤ S
theorem Geo.of {S L N : Nat} (h : geoOk S L N = true) : Geo S L N := by
  unfold geoOk at h
  simp only [Bool.and_eq_true, decide_eq_true_eq] at h
  obtain ⟨⟨⟨⟨⟨⟨h1, h2⟩, h3⟩, h4⟩, h5⟩, h6⟩, h7⟩ := h
  exact ⟨by omega, by omega, by omega, by omega, by omega, by omega, by omega⟩
theorem plan_nat (S L N : Nat) (w : World) (h : geoOk S L N = true) :
    Calls Tryz.prog 43 #[.agg #[.int .i64 S, .int .i64 L, .int .i64 N]] w fun e w' => e = .returned (.tuple #[.agg (layOf S L N).vals, .int .i64 0]) ∧ Kept [] w w' := by
  have g := Geo.of h
  obtain ⟨g1, g2, g3, g4, g5, g6, g7⟩ := g
  refine (plan_walk S L N w (by unfold IntOk; omega) (by unfold IntOk; omega) (by unfold IntOk; omega)).mono ?_
  rintro e w' ⟨rfl, hk⟩
  refine ⟨?_, hk⟩
  unfold layCells
  rw [h]
  simp only [if_true]
  have e1 : ((S : Int) - (3 + (L : Int))) = ((S - (3 + L) : Nat) : Int) := by omega
  have e2 : (3 + (L : Int)) = ((3 + L : Nat) : Int) := by omega
  have e3 : (2 + (N : Int) / 4) = ((2 + N / 4 : Nat) : Int) := by omega
  rw [e1, e2, e3]
  rfl
/-- A store. -/
def stCells (d g : Nat) (Y : Lay) (life ov : Nat) (op : Bool) : Array Value := #[.pointer (some ⟨d, 0, none⟩), .pointer (some ⟨g, 0, none⟩), .int .i64 Y.log, .int .i64 Y.home, .int .i64 Y.blocks, .int .i64 Y.nodes, .int .i64 Y.data, .int .i64 life, .map (some ov), .bool op]
def StoreAt (w : World) (s d g : Nat) (Y : Lay) (life ov : Nat) (op : Bool) : Prop := w.heap[s]? = some (.cells (stCells d g Y life ov op) 119 (0, 0))
structure OpenIn (d du mp base : Nat) (D : Dk) (L N : Nat) (w : World) : Prop where
  disk : DiskAt w d du mp base D
  geo : geoOk D.S L N = true
  life : D.life < 900000
  pend : ∀ i, D.pend i = none
  np : D.np = 0
  sup : D.now 0 = superB D.S L N
  left : Bodied (D.now 1) ∧ anchorN (D.now 1) = 4294967296 ∧ anchorD (D.now 1) = []
  right : Bodied (D.now 2) ∧ anchorN (D.now 2) = 0
  ring : ∀ j, j < L → D.now (3 + j) = zsec
def opened (L life : Nat) : Lg := { first := 1, n := L, life := life, epoch := 2, top := 1, tail := 0, head := 0, started := true }
structure Opened (d du mp : Nat) (D : Dk) (L N : Nat) (w w' : World) (s g ov base : Nat) (D' : Dk) : Prop where
  disk : DiskAt w' d du mp base D'
  sim : Sim D.take D'
  flushed : Flushed D' (anchNow D.now 1 8589934592)
  log : LogAt w' g d (opened L (D.life + 1))
  store : StoreAt w' s d g (layOf D.S L N) (D.life + 1) ov false
  ovl : PM w' ov 0 (fun _ => none)
  gB : w.heap.size ≤ g ∧ g < base
  sB : w.heap.size ≤ s ∧ s < base
  oB : w.heap.size ≤ ov ∧ ov < base
  ne : s ≠ g ∧ s ≠ ov ∧ g ≠ ov
  kept : Kept [d, du, mp] w w'
def SOpenPost (d du mp : Nat) (D : Dk) (L N : Nat) (w : World) (e : Ending) (w' : World) : Prop :=
  (e = .returned (.tuple #[.pointer none, .int .i64 3]) ∧ DeadW d du mp D w w') ∨
  (∃ s g ov base D', e = .returned (.tuple #[.pointer (some ⟨s, 0, none⟩), .int .i64 0]) ∧ Opened d du mp D L N w w' s g ov base D')
/-- While Open goes on. -/
structure OFr (d du mp base r : Nat) (w w' : World) (D : Dk) : Prop where
  h0 : w'.heap[r]? = some (.cells #[.pointer none] 54 (0, 0))
  h1 : w'.heap[r + 1]? = some (.cells #[.int .i64 0] 24 (0, 0))
  disk : DiskAt w' d du mp base D
  kept : Kept [d, du, mp] w w'
  hr : w.heap.size = r
  lo : d < r ∧ du < r ∧ mp < r
  hi : r + 1 < base
section
variable {d du mp base r : Nat} {w w1 w2 : World} {D D1 : Dk}
theorem OFr.step (h : OFr d du mp base r w w1 D) {F : List Nat} (hk : Kept F w1 w2) (hF : ∀ x ∈ F, x = d ∨ x = du ∨ x = mp) (hd : DiskAt w2 d du mp base D1) : OFr d du mp base r w w2 D1 := by
  have hlo := h.lo
  have hn : ∀ x, r ≤ x → x ∉ F := fun x hx hm => by rcases hF x hm with h1 | h1 | h1 <;> omega
  exact ⟨hk.keep h.h0 (hn r (Nat.le_refl _)), hk.keep h.h1 (hn (r + 1) (by omega)), hd, h.kept.trans hk (fun x hx => .inl (by simpa using hF x hx)), h.hr, h.lo, h.hi⟩
theorem OFr.stepb (h : OFr d du mp base r w w1 D) {F : List Nat} {b' : Nat} (hk : Kept F w1 w2) (hF : ∀ x ∈ F, x = d ∨ x = du ∨ x = mp) (hd : DiskAt w2 d du mp b' D1) (hb : r + 1 < b') : OFr d du mp b' r w w2 D1 := by
  have hlo := h.lo
  have hn : ∀ x, r ≤ x → x ∉ F := fun x hx hm => by rcases hF x hm with h1 | h1 | h1 <;> omega
  exact ⟨hk.keep h.h0 (hn r (Nat.le_refl _)), hk.keep h.h1 (hn (r + 1) (by omega)), hd, h.kept.trans hk (fun x hx => .inl (by simpa using hF x hx)), h.hr, h.lo, hb⟩
theorem OFr.still (h : OFr d du mp base r w w1 D) (hk : Kept [] w1 w2) : OFr d du mp base r w w2 D := h.step hk (by simp) (h.disk.kept0 hk)
theorem OFr.cell (h : OFr d du mp base r w w1 D) : w1.cell? ⟨r + 1, 0, none⟩ = some (.int .i64 0) ∧ w1.frozen? ⟨r + 1, 0, none⟩ = false := ⟨cell_whole h.h1 0, frozen_whole h.h1 0⟩
theorem OFr.zero (h : OFr d du mp base r w w1 D) : OFr d du mp base r w (w1.setCell ⟨r + 1, 0, none⟩ (.int .i64 0)) D := by
  have hlo := h.lo
  have hhi := h.hi
  have hk : Kept [r + 1] w1 (w1.setCell ⟨r + 1, 0, none⟩ (.int .i64 0)) := (Kept.refl _ _).setCell _ _ (.inl (by simp))
  exact ⟨hk.keep h.h0 (by simp), set_whole (i := 0) h.h1 (.int .i64 0), h.disk.kept hk (by simp; omega) (by simp; omega) (by simp; omega) (by simp; exact hhi), h.kept.trans hk (by simp [h.hr]), h.hr, h.lo, h.hi⟩
end
set_option maxRecDepth 100000 in
set_option maxHeartbeats 4000000 in
theorem sopen_walk (d du mp base : Nat) (D : Dk) (L N : Nat) (w : World) (h : OpenIn d du mp base D L N w) :
    Calls Tryz.prog 17 #[.pointer (some ⟨d, 0, none⟩)] w (SOpenPost d du mp D L N w) := by
  have hmf : ∀ (fn : Fn) (first cap : Array Value) (w : World), (Instr.makeFunc fn first cap).run Tryz.prog w = .ok (.func fn first cap) w := fun _ _ _ _ => rfl
  have H := Lib.hid h
  have HG := Lib.hid (Geo.of h.geo)
  have hlow := h.disk.low
  have hbl := h.disk.base_le
  have hk2 := ((Kept.refl [] w).alloc (.cells #[.pointer none] 54)).alloc (.cells #[.int .i64 0] 24)
  have h0 := alloc_whole (o' := .cells #[.int .i64 0] 24) (heap_alloc_new w (.cells #[.pointer none] 54))
  have h1 := heap_alloc_new (w.alloc (.cells #[.pointer none] 54)) (.cells #[.int .i64 0] 24)
  rw [size_alloc] at h1
  clear h
  go_enter_defers Tryz.func17, Tryz.ntmps17
  go_upto_region 2 with fail
  generalize (w.alloc (.cells #[.pointer none] 54)).alloc (.cells #[.int .i64 0] 24) = w2 at *
  generalize hr : w.heap.size = r at *
  have HR := Lib.hid hr
  have HH0 := Lib.hid h0
  have HH1 := Lib.hid h1
  have HK2 := Lib.hid hk2
  have hd2 := H.out.disk.kept0 hk2
  have HD2 := Lib.hid (hd2.rebase H.out.pend (b := w2.heap.size) hd2.base_le (Nat.le_refl _))
  have hl1 := lt_whole h1
  generalize hb2 : w2.heap.size = base2 at *
  have HB2 := Lib.hid (burnt_walk d du mp base2 D w2 HD2.out)
  have HBS := Lib.hid hb2
  clear hr h0 h1 hk2 hd2 hb2
  have hne : r ≠ r + 1 := by omega
  cases hb : D.burnt with
  | true =>
    rw [hb] at HB2
    have HEND := Lib.hid (show SOpenPost d du mp D L N w (.returned (.tuple #[.pointer none, .int .i64 3])) (caughtO r (r + 1) 3 w2) from .inl ⟨rfl, (DeadW.now HD2.out hb rfl (Nat.le_refl _) HK2.out (by simp)).to (caughtO_kept 3 w2) (by simp [HR.out]) (by simp; omega)⟩)
    go_wp2_with fail
    refine HB2.out.mono ?_
    rintro e w3 ⟨rfl, rfl⟩
    go_wp2
    exact doorO rfl rfl HH0.out HH1.out hne HEND.out
  | false =>
    rw [hb] at HB2
    have HRD := Lib.hid (read_walk d du mp base2 D w2 HD2.out 0 (by have := HD2.out.pos; omega))
    go_wp2_with fail
    refine HB2.out.mono ?_
    rintro e w3 ⟨rfl, rfl⟩
    go_wp2_with fail
    refine HRD.out.mono ?_
    rintro e w4 (⟨hbb, _⟩ | ⟨_, q, hq, rfl, hB4, hD4, hK4⟩)
    · rw [hb] at hbb; cases hbb
    have HO2 : OFr d du mp base2 r w w3 D := ⟨HH0.out, HH1.out, HD2.out, HK2.out.mono (by simp), HR.out, by omega, by omega⟩
    have HO4 := HO2.step hK4 (by simp) hD4
    have HQ4 := Lib.hid hB4.at
    have hz := HO4.zero
    obtain ⟨c1, f1⟩ := HO4.cell
    have HO5 := Lib.hid hz
    have HQ5 := Lib.hid (BytesAt.kept hB4.at ((Kept.refl [r + 1] w4).setCell ⟨r + 1, 0, none⟩ (.int .i64 0) (.inl (by simp))) (by simp; have := HBS.out; omega))
    clear hK4 hD4 HO2 hB4 HO4 hz HH0 HH1 HD2 HK2 HB2 HRD
    go_wp2_with fail
    generalize w4.setCell ⟨r + 1, 0, none⟩ (.int .i64 0) = w5 at *
    have hc5 := HO5.out.cell
    refine (demand_ok w5).mono ?_
    rintro e w6 ⟨rfl, rfl⟩
    clear c1 f1 HQ4
    have hdc := decodeSuper_walk q 0 512 D.S L N w6 (by have := HQ5.out; rw [H.out.sup] at this; exact this) (by omega) (by omega) H.out.geo
    have HDC := Lib.hid hdc
    clear hdc hc5
    go_wp2_with fail
    refine HDC.out.mono ?_
    rintro e w7 ⟨rfl, hk7⟩
    have HO7 := Lib.hid (HO5.out.still hk7)
    clear hk7 HDC HQ5
    have ha7 := HO7.out.still ((Kept.refl [] w7).alloc (.cells #[.int .i64 D.S, .int .i64 L, .int .i64 N] 53))
    have hn7 := heap_alloc_new w7 (.cells #[.int .i64 D.S, .int .i64 L, .int .i64 N] 53)
    obtain ⟨c7, f7⟩ := ha7.cell
    go_wp2_with fail
    have hl7 := lt_whole HO7.out.h1
    have hkz := (Kept.refl [r + 1] (w7.alloc (.cells #[.int .i64 D.S, .int .i64 L, .int .i64 N] 53))).setCell ⟨r + 1, 0, none⟩ (.int .i64 0) (.inl (by simp))
    have HP8 := Lib.hid (hkz.keep hn7 (by simp; omega))
    have HO8 := Lib.hid ha7.zero
    have hp8 := lt_whole HP8.out
    clear ha7 hn7 c7 f7 hkz
    generalize (w7.alloc (.cells #[.int .i64 D.S, .int .i64 L, .int .i64 N] 53)).setCell ⟨r + 1, 0, none⟩ (.int .i64 0) = w8 at *
    refine (demand_ok w8).mono ?_
    rintro e w9 ⟨rfl, rfl⟩
    generalize hp5 : w7.heap.size = p5 at *
    have c8 := cell_whole HP8.out 0
    have c81 := cell_whole HP8.out 1
    have c82 := cell_whole HP8.out 2
    simp only [List.getElem?_toArray, List.getElem?_cons_zero, List.getElem?_cons_succ] at c8 c81 c82
    have HSC : Hid (∀ n, Calls Tryz.prog 9 #[.pointer (some ⟨d, 0, none⟩)] (w9.drewN n) fun e w' => e = .returned (.int .i64 D.S) ∧ w' = w9.drewN n) := Lib.hid (fun n => sectors_walk d du mp base2 D.read (w9.drewN n) (HO8.out.disk.kept0 ((Kept.refl [] w9).drewN n)))
    go_wp2_with fail
    go_quiet ((go_at_call 9; exact Calls.quiet_of_same (HSC.out _)))
    go_wp2_with fail
    have HO10 := Lib.hid (HO8.out.still ((Kept.refl [] w9).drewN nq))
    have hpl := plan_nat D.S L N (w9.drewN nq) H.out.geo
    have hp10 : (w9.drewN nq).heap[p5]? = some (.cells #[.int .i64 D.S, .int .i64 L, .int .i64 N] 53 (0, 0)) := HP8.out
    have HP10 := Lib.hid hp10
    clear HO8 HP8 hp10 c8 c81 c82 HSC
    generalize w9.drewN nq = w10 at *
    refine hpl.mono ?_
    rintro e w11 ⟨rfl, hk11⟩
    have HO11 := Lib.hid (HO10.out.still hk11)
    have HP11 := Lib.hid (hk11.keep HP10.out (by simp))
    have hs11 := lt_whole HP11.out
    have ha11 := HO11.out.still ((Kept.refl [] w11).alloc (.cells (layOf D.S L N).vals 94))
    have hn11 := heap_alloc_new w11 (.cells (layOf D.S L N).vals 94)
    have hq11 := alloc_whole (o' := .cells (layOf D.S L N).vals 94) HP11.out
    obtain ⟨c11, f11⟩ := ha11.cell
    clear hpl hk11 HO10 HP10
    unfold Lay.vals at ha11 hn11 hq11 c11 f11 ⊢
    go_wp2_with fail
    have hkz := (Kept.refl [r + 1] (w11.alloc (.cells #[.int .i64 (layOf D.S L N).log, .int .i64 (layOf D.S L N).home, .int .i64 (layOf D.S L N).blocks, .int .i64 (layOf D.S L N).nodes, .int .i64 (layOf D.S L N).data] 94))).setCell ⟨r + 1, 0, none⟩ (.int .i64 0) (.inl (by simp))
    have hrl := lt_whole HO11.out.h1
    have HP12 := Lib.hid (hkz.keep hq11 (by simp; omega))
    have HY12 := Lib.hid (hkz.keep hn11 (by simp; omega))
    have HO12 := Lib.hid ha11.zero
    clear ha11 hn11 hq11 c11 f11 hkz HO11 HP11
    generalize (w11.alloc (.cells #[.int .i64 (layOf D.S L N).log, .int .i64 (layOf D.S L N).home, .int .i64 (layOf D.S L N).blocks, .int .i64 (layOf D.S L N).nodes, .int .i64 (layOf D.S L N).data] 94)).setCell ⟨r + 1, 0, none⟩ (.int .i64 0) = w12 at *
    generalize hp6 : w11.heap.size = p6 at *
    refine (demand_ok w12).mono ?_
    rintro e w13 ⟨rfl, rfl⟩
    have c121 := cell_whole HP12.out 1
    simp only [List.getElem?_toArray, List.getElem?_cons_zero, List.getElem?_cons_succ] at c121
    have hp12 := lt_whole HP12.out
    have hy12 := lt_whole HY12.out
    have hg := HG.out
    have hin : WOpenIn d du mp base2 D.read 1 L w13 := ⟨HO12.out.disk, by show 1 < D.S; have := hg.s2; omega, ⟨hg.l1, hg.l2⟩, by show 1 + 2 + L ≤ D.S; have := hg.s2; omega, by have := H.out.life; show D.life < 1000000; omega, H.out.pend, H.out.left, H.out.right, H.out.ring⟩
    have HWO := Lib.hid (wopen_walk d du mp base2 D.read 1 L w13 hin)
    clear hin hg
    go_wp2_with fail
    refine HWO.out.mono ?_
    rintro e w14 (⟨hbb, _⟩ | ⟨g, base3, D3, rfl, hg14, hgb, hd14, hsim, hfl, hlog, hk14⟩)
    · exact absurd (hbb.symm.trans hb) (by decide)
    have HO14 := HO12.out.stepb (D1 := D3) (b' := base3) hk14 (by simp) hd14 (by have := HO12.out.hi; have := lt_whole HO12.out.h1; omega)
    have hp14 := hk14.keep HP12.out (by simp; omega)
    have hy14 := hk14.keep HY12.out (by simp; omega)
    have hz := HO14.zero
    have hkz := (Kept.refl [r + 1] w14).setCell ⟨r + 1, 0, none⟩ (.int .i64 0) (.inl (by simp))
    obtain ⟨c14, f14⟩ := HO14.cell
    have HO15 := Lib.hid hz
    have HY15 := Lib.hid (hkz.keep hy14 (by simp; omega))
    have HL15 := Lib.hid (hlog.kept hkz (by simp; omega))
    have HF3 := Lib.hid hfl
    have HS3 := Lib.hid hsim
    have hlf3 : D3.life = D.life + 1 := hsim.life
    have hgr : r + 1 < g := by have := lt_whole HO12.out.h1; omega
    clear hk14 hd14 hlog hz hkz HO14 hp14 hy14 hfl hsim HWO HO12 HP12 HY12 c121
    go_wp2_with fail
    generalize w14.setCell ⟨r + 1, 0, none⟩ (.int .i64 0) = w15 at *
    refine (demand_ok w15).mono ?_
    rintro e w16 ⟨rfl, rfl⟩
    have HLF : Hid (∀ w', Kept [] w16 w' → Calls Tryz.prog 7 #[.pointer (some ⟨d, 0, none⟩)] w' fun e w'' => e = .returned (.int .i64 ((D.life + 1 : Nat))) ∧ w'' = w') := Lib.hid (fun w' hk' => by
      have := life_walk d du mp base3 D3 w' (HO15.out.disk.kept0 hk')
      rw [hlf3] at this
      exact this)
    have y0 := cell_whole HY15.out 0
    have y1 := cell_whole HY15.out 1
    have y2 := cell_whole HY15.out 2
    have y3 := cell_whole HY15.out 3
    have y4 := cell_whole HY15.out 4
    simp only [List.getElem?_toArray, List.getElem?_cons_zero, List.getElem?_cons_succ] at y0 y1 y2 y3 y4
    have hy15 := lt_whole HY15.out
    have hmm := @run_makeMap Tryz.prog
    have c160 := cell_whole HO15.out.h0 0
    have f160 := frozen_whole HO15.out.h0 0
    have hr16 := lt_whole HO15.out.h0
    simp only [List.getElem?_toArray, List.getElem?_cons_zero] at c160
    clear c14 f14
    obtain ⟨WX, hWX⟩ : ∃ WX, WX = (((w16.setCell ⟨r, 0, none⟩ (.pointer (some ⟨w16.heap.size + 1, 0, none⟩))).alloc (.map #[] 0)).alloc (.cells #[.pointer (some ⟨d, 0, none⟩), .pointer (some ⟨g, 0, none⟩), .int .i64 (layOf D.S L N).log, .int .i64 (layOf D.S L N).home, .int .i64 (layOf D.S L N).blocks, .int .i64 (layOf D.S L N).nodes, .int .i64 (layOf D.S L N).data, .int .i64 ((D.life : Int) + 1), .map (some w16.heap.size), .bool false] 119)).drew := ⟨_, rfl⟩
    have hsz : (w16.setCell ⟨r, 0, none⟩ (.pointer (some ⟨w16.heap.size + 1, 0, none⟩))).heap.size = w16.heap.size := size_set _ _ _
    have hka : Kept [r] w16 (w16.setCell ⟨r, 0, none⟩ (.pointer (some ⟨w16.heap.size + 1, 0, none⟩))) := (Kept.refl _ _).setCell _ _ (.inl (by simp))
    have hkx : Kept [r] w16 WX := by rw [hWX]; exact ((hka.alloc _).alloc _).drew
    have hbx : w16.heap.size + 2 = WX.heap.size := by rw [hWX, size_drew, size_alloc, size_alloc, hsz]
    have hd16 := HO15.out.lo
    have hi16 := HO15.out.hi
    have HX0 : Hid (WX.heap[r]? = some (.cells #[.pointer (some ⟨w16.heap.size + 1, 0, none⟩)] 54 (0, 0))) := Lib.hid (by rw [hWX]; exact alloc_whole (alloc_whole (set_whole (i := 0) HO15.out.h0 _)))
    have HX1 := Lib.hid (hkx.keep HO15.out.h1 (by simp))
    have HXK := Lib.hid (HO15.out.kept.trans hkx (by simp [HR.out]))
    have HXL := Lib.hid (HL15.out.kept hkx (by simp; omega))
    have HXS : Hid (StoreAt WX (w16.heap.size + 1) d g (layOf D.S L N) (D.life + 1) w16.heap.size false) := Lib.hid (by
      unfold StoreAt
      rw [hWX]
      have := heap_alloc_new ((w16.setCell ⟨r, 0, none⟩ (.pointer (some ⟨w16.heap.size + 1, 0, none⟩))).alloc (.map #[] 0)) (.cells #[.pointer (some ⟨d, 0, none⟩), .pointer (some ⟨g, 0, none⟩), .int .i64 (layOf D.S L N).log, .int .i64 (layOf D.S L N).home, .int .i64 (layOf D.S L N).blocks, .int .i64 (layOf D.S L N).nodes, .int .i64 (layOf D.S L N).data, .int .i64 ((D.life : Int) + 1), .map (some w16.heap.size), .bool false] 119)
      rw [size_alloc, hsz] at this
      exact this)
    have HXM : Hid (PM WX w16.heap.size 0 (fun _ => none)) := Lib.hid (by
      rw [hWX]
      have := PM.made (w16.setCell ⟨r, 0, none⟩ (.pointer (some ⟨w16.heap.size + 1, 0, none⟩)))
      have hk := (Kept.refl [] ((w16.setCell ⟨r, 0, none⟩ (.pointer (some ⟨w16.heap.size + 1, 0, none⟩))).alloc (.map #[] 0))).alloc (.cells #[.pointer (some ⟨d, 0, none⟩), .pointer (some ⟨g, 0, none⟩), .int .i64 (layOf D.S L N).log, .int .i64 (layOf D.S L N).home, .int .i64 (layOf D.S L N).blocks, .int .i64 (layOf D.S L N).nodes, .int .i64 (layOf D.S L N).data, .int .i64 ((D.life : Int) + 1), .map (some w16.heap.size), .bool false] 119)
      rw [hsz] at this
      exact this.keep (hk.block _ (by rw [size_alloc, hsz]; omega) (by simp)))
    have hdx := HO15.out.disk.kept hkx (by simp; omega) (by simp; omega) (by simp; omega) (by simp; omega)
    have HXD := Lib.hid (hdx.rebase HF3.out.pend (b := WX.heap.size) hdx.base_le (Nat.le_refl _))
    have hgx := lt_whole HL15.out.blk
    have hnow : D3.now = D.now := HF3.out.now
    have hAN : AnchIn d du mp WX.heap.size g D3 (opLog 1 L (D.read.life + 1)) ((opLog 1 L (D.read.life + 1)).top + 1) 0 WX :=
      { disk := HXD.out, log := HXL.out, gd := ⟨by omega, by omega, by omega, by omega⟩, first := by show 1 + 1 < D3.S; rw [HS3.out.S]; show 2 < D.S; have := HG.out.s2; omega,
        left := by show Bodied (D3.now 1); rw [hnow]; exact H.out.left.1, right := by show Bodied (D3.now 2); rw [hnow]; exact H.out.right.1, epB := by show 1 ≤ 2 ∧ 2 ≤ 1000000000; omega, tlB := by omega,
        newL := by show anchorN (D3.now 1) < 2 * 4294967296 + 0; rw [hnow, H.out.left.2.1]; omega, newR := by show anchorN (D3.now 2) < 2 * 4294967296 + 0; rw [hnow, H.out.right.2]; omega,
        pend := ⟨HF3.out.pend _, HF3.out.pend _⟩, np := by rw [HF3.out.np]; omega }
    have HSP := Lib.hid (start_walk WX hAN (by show D.read.life + 1 = D3.life; rw [hlf3]; rfl) rfl)
    have HNOW := Lib.hid hnow
    clear hka hkx hdx hAN hnow
    go_wp2_with fail
    refine wp_canon_call 4 [2, 5] [[3, 4, 0, 1, 2, 5, 6, 7, 8], [3, 5, 4, 0, 1, 2, 6, 7, 8], [2, 3, 4, 0, 1, 5, 6, 7, 8], [2, 3, 5, 4, 0, 1, 6, 7, 8]] (by kernel_rfl) (by kernel_rfl) (by kernel_rfl) ⟨?_, ?_, ?_, ?_, trivial⟩
    all_goals simp only [fm_cons, List.filterMap_nil, List.getElem?_toArray, List.getElem?_cons_zero, List.getElem?_cons_succ, Option.elim_some]
    all_goals
      go_wp2_with fail
      refine (HLF.out _ (by first | exact (Kept.refl [] w16).drew | exact ((Kept.refl [] w16).alloc _).drew)).mono ?_
      rintro e w17 ⟨rfl, rfl⟩
      go_wp2_with fail
      refine ⟨rfl, ?_⟩
      rw [← hWX]
      clear HLF c160 f160 y0 y1 y2 y3 y4 hWX hsz hmm hr16 hy15
      generalize w16.heap.size = ov at *
      go_wp2_with fail
      go_loopw [62] (fun v wr => v = .int .i64 0 ∧ wr = WX) (fun _ _ => 0)
      case atStart => exact ⟨rfl, rfl⟩
      case round =>
        obtain ⟨rfl, rfl⟩ := hrel
        go_wp2_with fail
        refine HSP.out.mono ?_
        rintro e w20 (⟨rfl, hdead⟩ | ⟨rfl, D4, hd20, hs20, hf20, hl20, hk20⟩)
        · have hd' := hdead
          obtain ⟨_, _, _, _, _, _, hkd⟩ := hd'
          have HZ0 := Lib.hid (hkd.keep HX0.out (by simp; omega))
          have HZ1 := Lib.hid (hkd.keep HX1.out (by simp; omega))
          have hdw : DeadW d du mp D w w20 := hdead.weak.from HS3.out.S (by rw [hlf3]; omega) HXK.out (fun x hx => .inl hx)
          have HEND := Lib.hid (show SOpenPost d du mp D L N w (.returned (.tuple #[.pointer none, .int .i64 3])) (caughtO r (r + 1) 3 w20) from .inl ⟨rfl, hdw.to (caughtO_kept (r0 := r) (r1 := r + 1) 3 w20) (by simp [HR.out]) (by simp; omega)⟩)
          clear hdead hkd HSP hdw
          go_wp2_with fail
          refine (demand_bad 3 rfl w20).mono ?_
          rintro e w21 ⟨rfl, rfl⟩
          go_wp2
          exact doorO rfl rfl HZ0.out HZ1.out hne HEND.out
        · have HZ0 := Lib.hid (hk20.keep HX0.out (by simp; omega))
          have HZ1 := Lib.hid (hk20.keep HX1.out (by simp; omega))
          have z0 := cell_whole HZ0.out 0
          have z1 := cell_whole HZ1.out 0
          have fz0 := frozen_whole HZ0.out 0
          have fz1 := frozen_whole HZ1.out 0
          have lz0 := lt_whole HZ0.out
          have lz1 := lt_whole HZ1.out
          simp only [List.getElem?_toArray, List.getElem?_cons_zero] at z0 z1
          have hkf := ((Kept.refl [r, r + 1] w20).setCell ⟨r, 0, none⟩ (.pointer (some ⟨ov + 1, 0, none⟩)) (.inl (by simp))).setCell ⟨r + 1, 0, none⟩ (.int .i64 0) (.inl (by simp))
          have HY0 := Lib.hid (set_other (p := ⟨r + 1, 0, none⟩) (v := .int .i64 0) (set_whole (i := 0) HZ0.out (.pointer (some ⟨ov + 1, 0, none⟩))) (fun e => hne e.symm))
          have HY1 := Lib.hid (set_whole (i := 0) (set_other (p := ⟨r, 0, none⟩) (v := .pointer (some ⟨ov + 1, 0, none⟩)) HZ1.out hne) (.int .i64 0))
          have hov : g < ov := by omega
          have HEND := Lib.hid (show SOpenPost d du mp D L N w (.returned (.tuple #[.pointer (some ⟨ov + 1, 0, none⟩), .int .i64 0])) _ from .inr ⟨ov + 1, g, ov, _, D4, rfl, {
            disk := hd20.kept hkf (by simp; omega) (by simp; omega) (by simp; omega) (by simp; omega)
            sim := by
              have s1 := HS3.out.trans hs20
              exact ⟨s1.S, s1.rf, s1.life⟩
            flushed := by
              have hf' : Flushed D4 (anchNow D3.now 1 ((1 + 1) * 4294967296)) := hf20
              rw [HNOW.out, show (1 + 1) * 4294967296 = 8589934592 from by omega] at hf'
              exact hf'
            log := hl20.kept hkf (by simp; omega)
            store := hkf.keep (hk20.keep HXS.out (by simp; omega)) (by simp; omega)
            ovl := (HXM.out.keep (hk20.block ov (by omega) (by simp; omega))).keep (hkf.block ov (by have := hk20.size; omega) (by simp; omega))
            gB := ⟨by rw [HR.out]; omega, by omega⟩
            sB := ⟨by rw [HR.out]; omega, by omega⟩
            oB := ⟨by rw [HR.out]; omega, by omega⟩
            ne := ⟨by omega, by omega, by omega⟩
            kept := (HXK.out.trans hk20 (by simp [HR.out]; omega)).trans hkf (by simp [HR.out]) }⟩)
          clear hd20 hs20 hf20 hl20 hk20 hkf HSP
          go_wp2_with fail
          refine (demand_ok w20).mono ?_
          rintro e w21 ⟨rfl, rfl⟩
          go_wp2
          exact doorO_idle rfl rfl HY0.out HY1.out HEND.out
end Go.Proofs.YtikfphojehgpjaaGreatDoor
/- store: gone, Begin; a transaction: State, Layout, at. -/
namespace Go.Proofs.YtikfphojehgpjaaGreatDoor
open Go.RowKit Vl Go.Maps Go.ChangeMaps
set_option linter.unusedVariables false

theorem DiskAt.keptN {F : List Nat} {w w' : World} {d du mp base : Nat} {D : Dk} (h : DiskAt w d du mp base D) (hp : ∀ i, D.pend i = none) (hk : Kept F w w') (h1 : d ∉ F) (h2 : du ∉ F) (h3 : mp ∉ F) : DiskAt w' d du mp base D := by
  refine ⟨hk.keep h.blk h1, h.bytes.kept hk h2, h.len, h.pos, h.ne, h.low, ?_, h.lft, h.lif, h.rng, Nat.le_trans h.base_le hk.size⟩
  obtain ⟨m, hm, hmp⟩ := h.pend
  refine ⟨m, hm.keep (hk.block mp hm.lt h3), fun i => ?_⟩
  rcases hmp i with h5 | ⟨h5, l, v, h6, h7, h8⟩
  · exact .inl h5
  · rw [hp i] at h6; cases h6
theorem StoreAt.cells {w : World} {s d g : Nat} {Y : Lay} {life ov : Nat} {op : Bool} (h : StoreAt w s d g Y life ov op) :
    w.cell? ⟨s, 0, none⟩ = some (.pointer (some ⟨d, 0, none⟩)) ∧ w.cell? ⟨s, 1, none⟩ = some (.pointer (some ⟨g, 0, none⟩)) ∧ w.cell? ⟨s, 2, none⟩ = some (.int .i64 Y.log) ∧ w.cell? ⟨s, 3, none⟩ = some (.int .i64 Y.home) ∧ w.cell? ⟨s, 4, none⟩ = some (.int .i64 Y.blocks) ∧
    w.cell? ⟨s, 5, none⟩ = some (.int .i64 Y.nodes) ∧ w.cell? ⟨s, 6, none⟩ = some (.int .i64 Y.data) ∧ w.cell? ⟨s, 7, none⟩ = some (.int .i64 life) ∧ w.cell? ⟨s, 8, none⟩ = some (.map (some ov)) ∧ w.cell? ⟨s, 9, none⟩ = some (.bool op) :=
  ⟨cell_whole h 0, cell_whole h 1, cell_whole h 2, cell_whole h 3, cell_whole h 4, cell_whole h 5, cell_whole h 6, cell_whole h 7, cell_whole h 8, cell_whole h 9⟩
theorem StoreAt.kept {w w' : World} {F : List Nat} {s d g : Nat} {Y : Lay} {life ov : Nat} {op : Bool} (h : StoreAt w s d g Y life ov op) (hk : Kept F w w') (hs : s ∉ F) : StoreAt w' s d g Y life ov op := hk.keep h hs

theorem gone_walk (w : World) {s d g du mp base : Nat} {D : Dk} {Y : Lay} {ov : Nat} {op : Bool} (h : DiskAt w d du mp base D) (hS : StoreAt w s d g Y D.life ov op) :
    Calls Tryz.prog 66 #[.pointer (some ⟨s, 0, none⟩)] w fun e w' => e = .returned (.bool D.burnt) ∧ ∃ n, w' = w.drewN n := by
  have hbw := fun n => burnt_walk d du mp base D (w.drewN n) (h.kept0 ((Kept.refl [] w).drewN n))
  have hlw := fun n => life_walk d du mp base D (w.drewN n) (h.kept0 ((Kept.refl [] w).drewN n))
  obtain ⟨c0, _, _, _, _, _, _, c7, _⟩ := hS.cells
  have HBW := Lib.hid hbw
  have HLW := Lib.hid hlw
  have hlt : s < w.heap.size := lt_whole hS
  have hdl := lt_whole h.blk
  clear hbw hlw h hS
  cases hb : D.burnt with
  | true =>
    rw [hb] at HBW
    go_enter Tryz.func66, Tryz.ntmps66
    go_wp2_with fail
    go_quiet (first | (go_at_call 12; exact Calls.quiet_of_same (HBW.out _)) | (go_at_call 7; exact Calls.quiet_of_same (HLW.out _)))
    go_wp2
    go_ret
    exact ⟨rfl, _, rfl⟩
  | false =>
    rw [hb] at HBW
    go_enter Tryz.func66, Tryz.ntmps66
    go_wp2_with fail
    go_quiet (first | (go_at_call 12; exact Calls.quiet_of_same (HBW.out _)) | (go_at_call 7; exact Calls.quiet_of_same (HLW.out _)))
    go_wp2
    go_ret
    exact ⟨rfl, _, rfl⟩

def txCells (s own : Nat) (ended : Bool) : Array Value := #[.pointer (some ⟨s, 0, none⟩), .map (some own), .int .i64 0, .bool ended]
def BeginPost (s d g : Nat) (Y : Lay) (life ov : Nat) (D : Dk) (w : World) (e : Ending) (w' : World) : Prop :=
  (D.burnt = true ∧ e = .returned (.tuple #[.pointer none, .int .i64 3]) ∧ Kept [] w w') ∨
  (D.burnt = false ∧ ∃ t own, w.heap.size ≤ t ∧ w.heap.size ≤ own ∧ t ≠ own ∧ e = .returned (.tuple #[.pointer (some ⟨t, 0, none⟩), .int .i64 0]) ∧ w'.heap[t]? = some (.cells (txCells s own false) 204 (0, 0)) ∧ PM w' own 0 (fun _ => none) ∧ StoreAt w' s d g Y life ov true ∧ Kept [s] w w')
set_option maxRecDepth 100000 in
set_option maxHeartbeats 1000000 in
theorem begin_walk (w : World) {s d g du mp base : Nat} {D : Dk} {Y : Lay} {ov : Nat} (h : DiskAt w d du mp base D) (hS : StoreAt w s d g Y D.life ov false) :
    Calls Tryz.prog 105 #[.pointer (some ⟨s, 0, none⟩)] w (BeginPost s d g Y D.life ov D w) := by
  have HG := Lib.hid (gone_walk w h hS)
  have HS := Lib.hid hS
  have hlt : s < w.heap.size := lt_whole hS
  have hmm := @run_makeMap Tryz.prog
  clear h hS
  cases hb : D.burnt with
  | true =>
    rw [hb] at HG
    go_enter Tryz.func105, Tryz.ntmps105
    go_wp2_with fail
    refine HG.out.mono ?_
    rintro e w1 ⟨rfl, n, rfl⟩
    go_wp2
    refine bodyPost_ret (results_tmp2 rfl _ _ _) rfl ?_
    exact .inl ⟨hb, rfl, (Kept.refl [] w).drewN n⟩
  | false =>
    rw [hb] at HG
    go_enter Tryz.func105, Tryz.ntmps105
    go_wp2_with fail
    refine HG.out.mono ?_
    rintro e w1 ⟨rfl, n, hw1⟩
    have hk1 : Kept [] w w1 := by rw [hw1]; exact (Kept.refl [] w).drewN n
    have hs1 := HS.out.kept hk1 (by simp)
    obtain ⟨_, _, _, _, _, _, _, _, _, c9⟩ := hs1.cells
    have f9 : w1.frozen? ⟨s, 9, none⟩ = false := frozen_whole hs1 9
    have hl1 : s < w1.heap.size := lt_whole hs1
    have hset := set_whole (i := 9) hs1 (.bool true)
    have hsz := size_set w1 ⟨s, 9, none⟩ (.bool true)
    have hk2 := (hk1.mono (G := [s]) (by simp)).setCell ⟨s, 9, none⟩ (.bool true) (.inl (by simp))
    have HK1 := Lib.hid hk1
    clear hw1 hk1 hs1
    go_wp2_with fail
    refine bodyPost_ret (results_tmp2 rfl _ _ _) rfl ?_
    have hw1 := HK1.out.size
    have hn := heap_alloc_new ((w1.setCell ⟨s, 9, none⟩ (.bool true)).alloc (.map #[] 0)) (.cells (txCells s w1.heap.size false) 204)
    have hm := PM.made (w1.setCell ⟨s, 9, none⟩ (.bool true))
    have hka := (Kept.refl [] ((w1.setCell ⟨s, 9, none⟩ (.bool true)).alloc (.map #[] 0))).alloc (.cells (txCells s w1.heap.size false) 204)
    have hkb := ((Kept.refl [] (w1.setCell ⟨s, 9, none⟩ (.bool true))).alloc (.map #[] 0)).alloc (.cells (txCells s w1.heap.size false) 204)
    rw [size_alloc, hsz] at hn
    rw [hsz] at hm
    exact .inr ⟨hb, w1.heap.size + 1, w1.heap.size, by omega, hw1, by omega, rfl, hn, hm.keep (hka.block _ (by rw [size_alloc, hsz]; omega) (by simp)), hkb.keep hset (by simp), hk2.trans hkb (by simp)⟩

/-- A transaction under way: what stays. -/
structure TxC where
  t : Nat
  own : Nat
  s : Nat
  g : Nat
  ov : Nat
  d : Nat
  du : Nat
  mp : Nat
  base : Nat
  D : Dk
  Y : Lay
  L : Lg
structure TxOk (X : TxC) : Prop where
  burnt : X.D.burnt = false
  pend : ∀ i, X.D.pend i = none
  life : X.L.life = X.D.life
  fit : X.Y.home + X.Y.blocks ≤ X.D.S
  S : X.D.S ≤ 2048
  low : X.t < X.base ∧ X.own < X.base ∧ X.s < X.base ∧ X.g < X.base ∧ X.ov < X.base ∧ X.d < X.base ∧ X.du < X.base ∧ X.mp < X.base
  nd : X.d ≠ X.t ∧ X.d ≠ X.own ∧ X.d ≠ X.s ∧ X.d ≠ X.g ∧ X.d ≠ X.ov
  ndu : X.du ≠ X.t ∧ X.du ≠ X.own ∧ X.du ≠ X.s ∧ X.du ≠ X.g ∧ X.du ≠ X.ov
  nmp : X.mp ≠ X.t ∧ X.mp ≠ X.own ∧ X.mp ≠ X.s ∧ X.mp ≠ X.g ∧ X.mp ≠ X.ov
  nown : X.own ≠ X.t ∧ X.own ≠ X.s ∧ X.own ≠ X.g ∧ X.own ≠ X.ov
  nt : X.t ≠ X.s ∧ X.t ≠ X.g ∧ X.t ≠ X.ov
  ns : X.s ≠ X.g ∧ X.s ≠ X.ov ∧ X.g ≠ X.ov
/-- The blocks of a transaction: each a row of the call's own. -/
def ElAt (w : World) (base : Nat) (l : List UInt8) (v : Value) : Prop := l.length = 512 ∧ Vl.Own w base 5 v 512 (bcells l)
def OwnMap (w : World) (base own n : Nat) (m : Nat → Option (List UInt8)) : Prop := ∃ mv, PM w own n mv ∧ ∀ b, (m b = none ∧ mv b = none) ∨ ∃ l v, m b = some l ∧ mv b = some v ∧ ElAt w base l v
structure TxAt (w : World) (X : TxC) (n : Nat) (m : Nat → Option (List UInt8)) : Prop where
  disk : ∃ x, DiskAt w X.d X.du X.mp X.base (X.D.rdd x)
  log : LogAt w X.g X.d X.L
  store : StoreAt w X.s X.d X.g X.Y X.D.life X.ov true
  ovl : PM w X.ov 0 (fun _ => none)
  tx : w.heap[X.t]? = some (.cells (txCells X.s X.own false) 204 (0, 0))
  own : OwnMap w X.base X.own n m
section
variable {w w' : World} {X : TxC} {n : Nat} {m : Nat → Option (List UInt8)}
theorem OwnMap.kept {base own : Nat} {F : List Nat} (h : OwnMap w base own n m) (hk : Kept F w w') (ho : own ∉ F) (hF : ∀ x ∈ F, x < base) : OwnMap w' base own n m := by
  obtain ⟨mv, h1, h2⟩ := h
  refine ⟨mv, h1.keep (hk.block own h1.lt ho), fun b => ?_⟩
  rcases h2 b with h3 | ⟨l, v, h3, h4, h5, h6⟩
  · exact .inl h3
  · exact .inr ⟨l, v, h3, h4, h5, h6.keep fun k hk' => hk.block k (h6.block hk').2.1 (fun hm => by have := hF k hm; have := (h6.block hk').1; omega)⟩
theorem TxAt.still (h : TxAt w X n m) (hk : Kept [] w w') : TxAt w' X n m := by
  obtain ⟨⟨x, h1⟩, h2, h3, h4, h5, h6⟩ := h
  exact ⟨⟨x, h1.kept0 hk⟩, h2.kept hk (by simp), h3.kept hk (by simp), h4.keep (hk.block _ h4.lt (by simp)), hk.keep h5 (by simp), h6.kept hk (by simp) (by simp)⟩
theorem TxAt.read (h : TxAt w X n m) (ok : TxOk X) (hk : Kept [X.d] w w') {x : Int} (hd : DiskAt w' X.d X.du X.mp X.base (X.D.rdd x)) : TxAt w' X n m := by
  obtain ⟨_, h2, h3, h4, h5, h6⟩ := h
  obtain ⟨a1, a2, a3, a4, a5⟩ := ok.nd
  exact ⟨⟨x, hd⟩, h2.kept hk (by simpa using a4.symm), h3.kept hk (by simpa using a3.symm), h4.keep (hk.block _ h4.lt (by simpa using a5.symm)), hk.keep h5 (by simpa using a1.symm), h6.kept hk (by simpa using a2.symm) (by simpa using ok.low.2.2.2.2.2.1)⟩
theorem TxAt.cells (h : TxAt w X n m) : w.cell? ⟨X.t, 0, none⟩ = some (.pointer (some ⟨X.s, 0, none⟩)) ∧ w.cell? ⟨X.t, 1, none⟩ = some (.map (some X.own)) ∧ w.cell? ⟨X.t, 2, none⟩ = some (.int .i64 0) ∧ w.cell? ⟨X.t, 3, none⟩ = some (.bool false) :=
  ⟨cell_whole h.tx 0, cell_whole h.tx 1, cell_whole h.tx 2, cell_whole h.tx 3⟩

theorem state_walk (ok : TxOk X) (h : TxAt w X n m) : Calls Tryz.prog 55 #[.pointer (some ⟨X.t, 0, none⟩)] w fun e w' => e = .returned (.int .i64 0) ∧ Kept [] w w' := by
  obtain ⟨x, hd⟩ := h.disk
  have hg := gone_walk w hd h.store
  rw [show (X.D.rdd x).burnt = false from ok.burnt] at hg
  have HG := Lib.hid hg
  have H := Lib.hid h
  obtain ⟨c0, _⟩ := h.cells
  have hl := lt_whole h.tx
  clear hd hg h
  go_enter Tryz.func55, Tryz.ntmps55
  go_wp2_with fail
  refine HG.out.mono ?_
  rintro e w1 ⟨rfl, k, hw1⟩
  have hk : Kept [] w w1 := by rw [hw1]; exact (Kept.refl [] w).drewN k
  obtain ⟨_, _, d2, d3⟩ := (H.out.still hk).cells
  have HK := Lib.hid hk
  clear hw1 hk
  go_wp2
  go_ret
  exact ⟨rfl, HK.out⟩
theorem size94 : (Tryz.prog.info? 94).map (·.size) = some 5 := by kernel_rfl
theorem tlayout_walk (h : TxAt w X n m) : Calls Tryz.prog 56 #[.pointer (some ⟨X.t, 0, none⟩)] w fun e w' => e = .returned (.agg X.Y.vals) ∧ Kept [] w w' := by
  obtain ⟨c0, _⟩ := h.cells
  obtain ⟨_, _, s2, s3, s4, s5, s6, _⟩ := h.store.cells
  have hl := lt_whole h.tx
  have hs : X.s < w.heap.size := lt_whole h.store
  clear h
  go_enter Tryz.func56, Tryz.ntmps56
  go_wp2
  have hn := heap_alloc_new w (.cells X.Y.vals 94)
  exact bodyPost_ret (results_cell_row rfl _ _ w.heap.size 94 X.Y.vals (0, 0) _ rfl hn Tryz.underlying94 rfl size94) rfl ⟨rfl, (Kept.refl [] w).alloc _⟩
theorem tat_walk (ok : TxOk X) (h : TxAt w X n m) (b : Nat) (hb : b < X.Y.blocks) : Calls Tryz.prog 107 #[.pointer (some ⟨X.t, 0, none⟩), .int .i64 b] w fun e w' => e = .returned (.int .i64 0) ∧ Kept [] w w' := by
  have HS := Lib.hid (state_walk ok h)
  have H := Lib.hid h
  have hS := ok.fit
  have hS2 := ok.S
  have HB := Lib.hid hb
  clear h
  generalize hbl : X.Y.blocks = bl at *
  go_enter Tryz.func107, Tryz.ntmps107
  go_wp2_with fail
  refine HS.out.mono ?_
  rintro e w1 ⟨rfl, hk⟩
  have h1 := H.out.still hk
  obtain ⟨d0, _⟩ := h1.cells
  obtain ⟨_, _, _, _, s4, _⟩ := h1.store.cells
  rw [hbl] at s4
  have hl := lt_whole h1.tx
  have hs : X.s < w1.heap.size := lt_whole h1.store
  have hbq : ((bl : Int) ≤ (b : Int)) = False := by simp; omega
  have HK := Lib.hid hk
  clear hk h1
  go_wp2
  go_ret
  exact ⟨rfl, HK.out⟩
end
end Go.Proofs.YtikfphojehgpjaaGreatDoor
/- store: committed; a transaction: Get, Put. -/
namespace Go.Proofs.YtikfphojehgpjaaGreatDoor
open Go.RowKit Vl Go.Maps Go.ChangeMaps
set_option linter.unusedVariables false

theorem own_bytes {w : World} {B q : Nat} {l : List UInt8} (h : Bytes w q l) (hl : l.length = 512) (hq : B ≤ q) : Vl.Own w B 5 (.slice (some ⟨q, 0, none⟩) 512 512) 512 (bcells l) :=
  ⟨by rw [bcells_length, hl], .inr ⟨q, 512, _, rfl, hq, h, Nat.le_refl _, by unfold maxLen; omega, by simp [bcells_length, hl], by
    rw [List.take_of_length_le (by simp [bcells_length, hl])]⟩⟩
section
variable {w w' : World} {X : TxC} {n : Nat} {m : Nat → Option (List UInt8)}
/-- A block, as the transaction sees it. -/
def seen (X : TxC) (m : Nat → Option (List UInt8)) (b : Nat) : List UInt8 := (m b).getD (X.D.now (X.Y.home + b))
def GetPost (X : TxC) (n : Nat) (m : Nat → Option (List UInt8)) (l : List UInt8) (w : World) (e : Ending) (w' : World) : Prop :=
  ∃ v, e = .returned (.tuple #[v, .int .i64 0]) ∧ Vl.Own w' w.heap.size 5 v 512 (bcells l) ∧ TxAt w' X n m ∧ Kept [X.d] w w'
set_option maxRecDepth 100000 in
set_option maxHeartbeats 1000000 in
theorem committed_walk (ok : TxOk X) (h : TxAt w X n m) (b : Nat) (hb : b < X.Y.blocks) : Calls Tryz.prog 162 #[.pointer (some ⟨X.s, 0, none⟩), .int .i64 b] w (GetPost X n m (X.D.now (X.Y.home + b)) w) := by
  have H := Lib.hid h
  have hfit := ok.fit
  have hS := ok.S
  obtain ⟨x, hd⟩ := h.disk
  obtain ⟨c0, _, _, c3, _, _, _, _, c8, _⟩ := h.store.cells
  have hs : X.s < w.heap.size := lt_whole h.store
  have hlk := h.ovl.look_ok sl117 (x := b) (by omega)
  simp only [Option.getD_none, Option.isSome_none] at hlk
  have hrd := read_walk X.d X.du X.mp X.base (X.D.rdd x) w.drew hd.drew (X.Y.home + b) (by show _ < X.D.S; omega)
  have hcast : ((X.Y.home + b : Nat) : Int) = (X.Y.home : Int) + (b : Int) := by omega
  rw [hcast] at hrd
  have HRD := Lib.hid hrd
  have HOK := Lib.hid ok
  have hlen : (X.D.now (X.Y.home + b)).length = 512 := by have := hd.now_len (i := X.Y.home + b) (by show _ < X.D.S; omega); exact this
  have HLN := Lib.hid hlen
  clear hd hrd h hcast ok hlen
  go_enter Tryz.func162, Tryz.ntmps162
  go_wp2_with fail
  refine wp_canon (by kernel_rfl) (by kernel_rfl) ?_
  go_wp2_with fail
  refine HRD.out.mono ?_
  rintro e w1 (⟨hb1, _⟩ | ⟨_, q, hq, rfl, hB, hD, hK⟩)
  · have : X.D.burnt = true := hb1
    rw [HOK.out.burnt] at this; cases this
  have hk : Kept [X.d] w w1 := (Kept.refl [X.d] w).drew.trans hK (by simp)
  have HEND := Lib.hid (show GetPost X n m (X.D.now (X.Y.home + b)) w (.returned (.tuple #[.slice (some ⟨q, 0, none⟩) 512 512, .int .i64 0])) w1 from ⟨_, rfl, own_bytes hB HLN.out hq, H.out.read HOK.out hk hD, hk⟩)
  clear hB hD hK hk
  go_wp2
  refine ⟨rfl, ?_⟩
  go_wp2
  refine bodyPost_ret (results_tmp2 rfl _ _ _) rfl ?_
  exact HEND.out
set_option maxRecDepth 100000 in
set_option maxHeartbeats 1000000 in
theorem get_walk (ok : TxOk X) (h : TxAt w X n m) (b : Nat) (hb : b < X.Y.blocks) : Calls Tryz.prog 108 #[.pointer (some ⟨X.t, 0, none⟩), .int .i64 b] w (GetPost X n m (seen X m b) w) := by
  have H := Lib.hid h
  have HOK := Lib.hid ok
  have hfit := ok.fit
  have hS := ok.S
  have HA := Lib.hid (tat_walk ok h b hb)
  have HB := Lib.hid hb
  have hb2 : b < 65536 := by omega
  clear h ok hb
  go_enter Tryz.func108, Tryz.ntmps108
  go_wp2_with fail
  refine HA.out.mono ?_
  rintro e w1 ⟨rfl, hk1⟩
  have h1 := H.out.still hk1
  obtain ⟨d0, d1, _⟩ := h1.cells
  have hl := lt_whole h1.tx
  obtain ⟨mv, hpm, hmv⟩ := h1.own
  have hlk := hpm.look_ok sl117 hb2
  have HK1 := Lib.hid hk1
  have H1 := Lib.hid h1
  rcases hmv b with ⟨hm, hv⟩ | ⟨l, v, hm, hv, hll, hown⟩
  · rw [hv] at hlk
    simp only [Option.getD_none, Option.isSome_none] at hlk
    have HC := Lib.hid (committed_walk HOK.out h1 b HB.out)
    have HE : Hid (seen X m b = X.D.now (X.Y.home + b)) := Lib.hid (by unfold seen; rw [hm]; rfl)
    clear hk1 h1 hpm hmv hm hv
    go_wp2_with fail
    refine HC.out.mono ?_
    rintro e w2 ⟨v, rfl, ho, ht, hk2⟩
    have HEND := Lib.hid (show GetPost X n m (seen X m b) w (.returned (.tuple #[v, .int .i64 0])) w2 from ⟨v, rfl, by rw [HE.out]; exact ho.mono HK1.out.size, ht, (HK1.out.mono (G := [X.d]) (by simp)).trans hk2 (by simp)⟩)
    clear ho ht hk2
    go_wp2
    refine bodyPost_ret (results_tmp2 rfl _ _ _) rfl ?_
    exact HEND.out
  · rw [hv] at hlk
    simp only [Option.getD_some, Option.isSome_some] at hlk
    obtain ⟨a, c, rfl⟩ := hown.form
    obtain ⟨_, hba⟩ := BytesAt.of_own hown
    have hcl := clone_walk a l c w1 hba (by omega) (by omega)
    have HCL := Lib.hid hcl
    have HLL := Lib.hid hll
    have HE : Hid (seen X m b = l) := Lib.hid (by unfold seen; rw [hm]; rfl)
    clear hk1 h1 hpm hmv hm hv hba hcl hown hll
    go_wp2_with fail
    refine HCL.out.mono ?_
    rintro e w2 ⟨v, rfl, ho, hk2⟩
    rw [HLL.out] at ho
    have HEND := Lib.hid (show GetPost X n m (seen X m b) w (.returned (.tuple #[v, .int .i64 0])) w2 from ⟨v, rfl, by rw [HE.out]; exact ho.mono HK1.out.size, H1.out.still hk2, (HK1.out.mono (G := [X.d]) (by simp)).trans (hk2.mono (G := [X.d]) (by simp)) (by simp)⟩)
    clear ho hk2
    go_wp2
    refine bodyPost_ret (results_tmp2 rfl _ _ _) rfl ?_
    exact HEND.out
end
end Go.Proofs.YtikfphojehgpjaaGreatDoor
