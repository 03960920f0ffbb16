/- fs: fail, must, next, begin. -/
import Derived.Test.YtikfphojehgpjaaGreatDoorM28
set_option linter.unusedSimpArgs false
set_option linter.unusedVariables false
namespace Go.Proofs.YtikfphojehgpjaaGreatDoor
open Go.RowKit Vl Go.Maps Go.ChangeMaps
set_option linter.unusedVariables false
def jobCells (wk : Value) (f : Nat) : Array Value := #[wk, .pointer (some ⟨f, 0, none⟩), .string ⟨#[109, 107, 102, 115]⟩, .int .i64 0, .string ⟨#[]⟩, .string ⟨#[]⟩, .int .i64 0, .int .i64 0, .int .i64 0, .slice none 0 0, .int .i64 0, .int .i64 0, .slice none 0 0, .int .i64 0, .int .i64 0, .int .i64 0, .int .i64 0, .int .i64 0, .slice none 0 0, .slice none 0 0, .string ⟨#[]⟩]
def trCells (n : Int) (j : Nat) : Array Value := #[.string ⟨#[109, 107, 102, 115]⟩, .int .i64 n, .pointer (some ⟨j, 0, none⟩)]
def thrownE (tr : Nat) : Ending := .panicked [{ v := .iface 121 (.pointer (some ⟨tr, 0, none⟩)), recovered := false }]
theorem fail_walk (j f : Nat) (wk : Value) (n : Int) (w : World) (h : w.heap[j]? = some (.cells (jobCells wk f) 75 (0, 0))) :
    Calls Tryz.prog 51 #[.pointer (some ⟨j, 0, none⟩), .int .i64 n] w fun e w' => e = thrownE w.heap.size ∧ w' = w.alloc (.cells (trCells n j) 124) := by
  have c2 := cell_whole h 2
  have hl := lt_whole h
  unfold jobCells at c2
  simp only [List.getElem?_toArray, List.getElem?_cons_zero, List.getElem?_cons_succ] at c2
  clear h
  go_enter Tryz.func51, Tryz.ntmps51
  go_wp2
  exact ⟨rfl, rfl, rfl⟩
theorem jmust_ok (j : Nat) (w : World) : Calls Tryz.prog 21 #[.pointer (some ⟨j, 0, none⟩), .int .i64 0] w fun e w' => e = .returned (.tuple #[]) ∧ w' = w := by
  go_enter Tryz.func21, Tryz.ntmps21
  go_wp2
  go_end0
  exact ⟨rfl, rfl⟩
theorem jmust_bad (j f : Nat) (wk : Value) (w : World) (h : w.heap[j]? = some (.cells (jobCells wk f) 75 (0, 0))) :
    Calls Tryz.prog 21 #[.pointer (some ⟨j, 0, none⟩), .int .i64 3] w fun e w' => e = thrownE w.heap.size ∧ w' = w.alloc (.cells (trCells 3 j) 124) := by
  have HF := Lib.hid (fail_walk j f wk 3 w h)
  clear h
  go_enter Tryz.func21, Tryz.ntmps21
  go_wp2_with fail
  refine HF.out.mono ?_
  rintro e w1 ⟨he, rfl⟩
  unfold thrownE at he
  subst he
  go_wp2
  exact ⟨rfl, rfl, rfl⟩
/-- A call that gave up: the disk is burnt. -/
structure Thrown (F : List Nat) (d du mp : Nat) (D : Dk) (w : World) (tr j f : Nat) (wk : Value) (w' : World) : Prop where
  tr_ : w'.heap[tr]? = some (.cells (trCells 3 j) 124 (0, 0))
  job : w'.heap[j]? = some (.cells (jobCells wk f) 75 (0, 0))
  disk : ∃ D', DiskW w' d du mp D' ∧ D'.burnt = true ∧ D'.S = D.S ∧ D.life ≤ D'.life
  kept : Kept F w w'
  walk : wk = .pointer none ∨ ∃ pl nd sp fl dr wb t s own g Y life ov op en, wk = .pointer (some ⟨wb, 0, none⟩) ∧ ViewAt w' t pl nd sp fl dr wb ∧ StoreAt w' s d g Y life ov op ∧ w'.heap[t]? = some (.cells (txCells s own en) 204 (0, 0))
def ThrownP (F : List Nat) (d du mp : Nat) (D : Dk) (w : World) (e : Ending) (w' : World) : Prop := ∃ tr j f wk, e = thrownE tr ∧ Thrown F d du mp D w tr j f wk w'
def NextOk (s d g : Nat) (Y : Lay) (life ov j f : Nat) (w : World) (w' : World) : Prop := ∃ t own pl nd sp fl dr wb, w.heap.size ≤ t ∧ w.heap.size ≤ own ∧ t ≠ own ∧ w'.heap[t]? = some (.cells (txCells s own false) 204 (0, 0)) ∧ PM w' own 0 (fun _ => none) ∧
  StoreAt w' s d g Y life ov true ∧ w'.heap[j]? = some (.cells (jobCells (.pointer (some ⟨wb, 0, none⟩)) f) 75 (0, 0)) ∧ ViewAt w' t pl nd sp fl dr wb ∧ (∀ x ∈ [pl, nd, sp, fl, dr, wb], w.heap.size ≤ x ∧ x ≠ t ∧ x ≠ own) ∧ Kept [s, j] w w'
set_option maxRecDepth 100000 in
set_option maxHeartbeats 2000000 in
theorem next_walk (w : World) {s d g du mp base f j : Nat} {D : Dk} {Y : Lay} {ov : Nat} (h : DiskAt w d du mp base D) (hS : StoreAt w s d g Y D.life ov false) (hj : w.heap[j]? = some (.cells (jobCells (.pointer none) f) 75 (0, 0))) (hf : w.heap[f]? = some (.cells #[.pointer (some ⟨s, 0, none⟩), .map none] 61 (0, 0))) (hjs : j ≠ s) (hjd : j ≠ d ∧ j ≠ du ∧ j ≠ mp) :
    Calls Tryz.prog 50 #[.pointer (some ⟨j, 0, none⟩)] w fun e w' => (D.burnt = true ∧ ThrownP [j] d du mp D w e w') ∨ (D.burnt = false ∧ e = .returned (.tuple #[]) ∧ NextOk s d g Y D.life ov j f w w') := by
  have HB := Lib.hid (begin_walk w h hS)
  have HJ := Lib.hid hj
  have H := Lib.hid h
  have j1 := cell_whole hj 1
  have jl := lt_whole hj
  have f0 := cell_whole hf 0
  have fl := lt_whole hf
  unfold jobCells at j1
  simp only [List.getElem?_toArray, List.getElem?_cons_zero, List.getElem?_cons_succ] at j1 f0
  clear h hS hj hf
  go_enter Tryz.func50, Tryz.ntmps50
  go_wp2_with fail
  refine HB.out.mono ?_
  rintro e w1 (⟨hb, rfl, hk⟩ | ⟨hb, t, own, ht, ho, hne, rfl, h1, h2, h3, hk⟩)
  · have HK := Lib.hid hk
    have hj1 := hk.keep HJ.out (by simp)
    have HJ2 := Lib.hid (show (w1.setCell ⟨j, 0, none⟩ (.pointer none)).heap[j]? = some (.cells (jobCells (.pointer none) f) 75 (0, 0)) from set_whole (i := 0) hj1 (.pointer none))
    have g0 := cell_whole hj1 0
    have gf := frozen_whole hj1 0
    have gl := lt_whole hj1
    have HK2 := Lib.hid ((hk.mono (G := [j]) (by simp)).trans ((Kept.refl [j] w1).setCell ⟨j, 0, none⟩ (.pointer none) (.inl (by simp))) (by simp))
    have HBN := Lib.hid hb
    clear hk hj1 hb
    go_wp2_with fail
    refine (fail_walk j f (.pointer none) 3 _ HJ2.out).mono ?_
    rintro e w3 ⟨he, hw3⟩
    rw [show (w1.setCell ⟨j, 0, none⟩ (.pointer none)).heap.size = w1.heap.size by simp [World.setCell]] at he
    have hk3 : Kept [] (w1.setCell ⟨j, 0, none⟩ (.pointer none)) w3 := by rw [hw3]; exact (Kept.refl [] _).alloc _
    have HEND := Lib.hid (show (D.burnt = true ∧ ThrownP [j] d du mp D w e w3) ∨ (D.burnt = false ∧ e = .returned (.tuple #[]) ∧ NextOk s d g Y D.life ov j f w w3) from .inl ⟨HBN.out, _, j, f, .pointer none, he, by rw [hw3, show w1.heap.size = (w1.setCell ⟨j, 0, none⟩ (.pointer none)).heap.size by simp [World.setCell]]; exact heap_alloc_new _ _, hk3.keep HJ2.out (by simp), by
      have hw := H.out.weak
      exact ⟨D, ⟨(HK2.out.trans hk3 (by simp)).keep hw.blk (by simp; exact hjd.1.symm), hw.lft, hw.lif, hw.rng⟩, HBN.out, rfl, Nat.le_refl _⟩, HK2.out.trans hk3 (by simp), .inl rfl⟩)
    unfold thrownE at he
    subst he
    clear hw3 hk3
    go_wp2
    exact ⟨rfl, HEND.out⟩
  · have HK := Lib.hid hk
    have HT := Lib.hid h1
    have HPM := Lib.hid h2
    have HST := Lib.hid h3
    have HBN := Lib.hid hb
    have hj1 := Lib.hid (hk.keep HJ.out (by simp; exact hjs))
    clear h1 h2 h3 hk hb
    go_wp2_with fail
    refine (view_walk w1 t).mono ?_
    rintro e w2 ⟨rfl, hv, hk2⟩
    have hj2 := hk2.keep hj1.out (by simp)
    have g0 := cell_whole hj2 0
    have gf := frozen_whole hj2 0
    have gl := lt_whole hj2
    have tl := lt_whole HT.out
    have ol := HPM.out.lt
    have jl1 := lt_whole hj1.out
    generalize hwv : w1.heap.size = v at *
    have hs := HK.out.size
    rw [hwv] at hs
    have hk3 : Kept [j] w2 (w2.setCell ⟨j, 0, none⟩ (.pointer (some ⟨v + 5, 0, none⟩))) := (Kept.refl [j] w2).setCell _ _ (.inl (by simp))
    have hst2 := HST.out.kept hk2 (by simp)
    have hpm2 := HPM.out.keep (hk2.block own HPM.out.lt (by simp))
    have ht2 := hk2.keep HT.out (by simp)
    have hjw := lt_whole HJ.out
    have HEND := Lib.hid (show (D.burnt = true ∧ ThrownP [j] d du mp D w (.returned (.tuple #[])) (w2.setCell ⟨j, 0, none⟩ (.pointer (some ⟨v + 5, 0, none⟩)))) ∨ (D.burnt = false ∧ (.returned (.tuple #[]) : Ending) = .returned (.tuple #[]) ∧ NextOk s d g Y D.life ov j f w (w2.setCell ⟨j, 0, none⟩ (.pointer (some ⟨v + 5, 0, none⟩)))) from
      .inr ⟨HBN.out, rfl, t, own, v, v + 1, v + 2, v + 3, v + 4, v + 5, ht, ho, hne, hk3.keep ht2 (by simp; omega), hpm2.keep (hk3.block own hpm2.lt (by simp; omega)), hst2.kept hk3 (by simp; exact fun e => hjs e.symm), set_whole (i := 0) hj2 _, hv.kept hk3 (by simp; omega) (by simp; omega) (by simp; omega) (by simp; omega) (by simp; omega) (by simp; omega), by simp; omega, ((HK.out.mono (G := [s, j]) (by simp)).trans hk2 (by simp)).trans hk3 (by simp)⟩)
    unfold jobCells at g0
    simp only [List.getElem?_toArray, List.getElem?_cons_zero] at g0
    clear hv hk2 hk3 hst2 hpm2 ht2 hj2
    go_wp2
    go_end0
    exact HEND.out.imp id (fun h => ⟨h.1, rfl, h.2.2⟩)
def BeginOk (s d g : Nat) (Y : Lay) (life ov f : Nat) (w : World) (e : Ending) (w' : World) : Prop := ∃ j, e = .returned (.pointer (some ⟨j, 0, none⟩)) ∧ w.heap.size ≤ j ∧ ∃ t own pl nd sp fl dr wb, w.heap.size ≤ t ∧ w.heap.size ≤ own ∧ t ≠ own ∧ w'.heap[t]? = some (.cells (txCells s own false) 204 (0, 0)) ∧ PM w' own 0 (fun _ => none) ∧
  StoreAt w' s d g Y life ov true ∧ w'.heap[j]? = some (.cells (jobCells (.pointer (some ⟨wb, 0, none⟩)) f) 75 (0, 0)) ∧ ViewAt w' t pl nd sp fl dr wb ∧ (∀ x ∈ [j, pl, nd, sp, fl, dr, wb], w.heap.size ≤ x ∧ x ≠ t ∧ x ≠ own) ∧ Kept [s] w w'
set_option maxRecDepth 100000 in
set_option maxHeartbeats 2000000 in
theorem fbegin_walk (w : World) {s d g du mp base f : Nat} {D : Dk} {Y : Lay} {ov : Nat} (h : DiskAt w d du mp base D) (hS : StoreAt w s d g Y D.life ov false) (hf : w.heap[f]? = some (.cells #[.pointer (some ⟨s, 0, none⟩), .map none] 61 (0, 0))) :
    Calls Tryz.prog 20 #[.pointer (some ⟨f, 0, none⟩), .string ⟨#[109, 107, 102, 115]⟩] w fun e w' => (D.burnt = true ∧ ThrownP [] d du mp D w e w') ∨ (D.burnt = false ∧ BeginOk s d g Y D.life ov f w e w') := by
  have hk1 := (Kept.refl [] w).alloc (.cells (jobCells (.pointer none) f) 75)
  have hj1 := heap_alloc_new w (.cells (jobCells (.pointer none) f) 75)
  have hsl := lt_whole hS
  have hb := h.base_le
  have hlow := h.low
  have HN := Lib.hid (next_walk (w.alloc (.cells (jobCells (.pointer none) f) 75)) (h.kept0 hk1) (hS.kept hk1 (by simp)) hj1 (hk1.keep hf (by simp)) (by omega) (by omega))
  unfold jobCells at hk1 hj1 HN
  clear h hS hf
  go_enter Tryz.func20, Tryz.ntmps20
  go_wp2_with fail
  have HK1 := Lib.hid hk1
  have hsz : (w.alloc (.cells #[.pointer none, .pointer (some ⟨f, 0, none⟩), .string ⟨#[109, 107, 102, 115]⟩, .int .i64 0, .string ⟨#[]⟩, .string ⟨#[]⟩, .int .i64 0, .int .i64 0, .int .i64 0, .slice none 0 0, .int .i64 0, .int .i64 0, .slice none 0 0, .int .i64 0, .int .i64 0, .int .i64 0, .int .i64 0, .int .i64 0, .slice none 0 0, .slice none 0 0, .string ⟨#[]⟩] 75)).heap.size = w.heap.size + 1 := size_alloc _ _
  clear hk1 hj1
  generalize w.alloc (.cells #[.pointer none, .pointer (some ⟨f, 0, none⟩), .string ⟨#[109, 107, 102, 115]⟩, .int .i64 0, .string ⟨#[]⟩, .string ⟨#[]⟩, .int .i64 0, .int .i64 0, .int .i64 0, .slice none 0 0, .int .i64 0, .int .i64 0, .slice none 0 0, .int .i64 0, .int .i64 0, .int .i64 0, .int .i64 0, .int .i64 0, .slice none 0 0, .slice none 0 0, .string ⟨#[]⟩] 75) = w1 at *
  refine HN.out.mono ?_
  rintro e w2 (⟨hb, tr, j', f', wk, he, hT⟩ | ⟨hb, rfl, t, own, pl, nd, sp, fl, dr, wb, h1, h2, h3, h4, h5, h6, h7, h8, h9, hk⟩)
  · have HEND := Lib.hid (show (D.burnt = true ∧ ThrownP [] d du mp D w e w2) ∨ (D.burnt = false ∧ BeginOk s d g Y D.life ov f w e w2) from .inl ⟨hb, tr, j', f', wk, he, hT.tr_, hT.job, hT.disk, HK1.out.trans hT.kept (by simp), hT.walk⟩)
    unfold thrownE at he
    subst he
    clear hT HN
    go_wp2
    exact ⟨rfl, HEND.out⟩
  · have HEND := Lib.hid (show (D.burnt = true ∧ ThrownP [] d du mp D w (.returned (.pointer (some ⟨w.heap.size, 0, none⟩))) w2) ∨ (D.burnt = false ∧ BeginOk s d g Y D.life ov f w (.returned (.pointer (some ⟨w.heap.size, 0, none⟩))) w2) from
      .inr ⟨hb, w.heap.size, rfl, Nat.le_refl _, t, own, pl, nd, sp, fl, dr, wb, by omega, by omega, h3, h4, h5, h6, h7, h8, fun x hx => by
        rcases List.mem_cons.1 hx with e | hx
        · exact ⟨by omega, by omega, by omega⟩
        · obtain ⟨q1, q2, q3⟩ := h9 x hx
          exact ⟨by omega, q2, q3⟩, (HK1.out.mono (G := [s]) (by simp)).trans hk (by simp)⟩)
    clear h1 h2 h3 h4 h5 h6 h7 h8 h9 hk HN
    go_wp2
    go_ret
    exact HEND.out
end Go.Proofs.YtikfphojehgpjaaGreatDoor
/- fs: commit. -/
namespace Go.Proofs.YtikfphojehgpjaaGreatDoor
open Go.RowKit Vl Go.Maps Go.ChangeMaps
set_option linter.unusedVariables false
section
variable {w w' : World} {X : TxC} {n : Nat} {m : Nat → Option (List UInt8)} {j f pl nd sp fl dr wb : Nat}
structure JobAt (w : World) (X : TxC) (j f pl nd sp fl dr wb : Nat) : Prop where
  job : w.heap[j]? = some (.cells (jobCells (.pointer (some ⟨wb, 0, none⟩)) f) 75 (0, 0))
  view : ViewAt w X.t pl nd sp fl dr wb
  apart : ∀ x ∈ [j, pl, nd, sp, fl, dr, wb], x ∉ [X.d, X.du, X.mp, X.s, X.g, X.ov, X.t, X.own]
theorem JobAt.kept {F : List Nat} (h : JobAt w X j f pl nd sp fl dr wb) (hk : Kept F w w') (hF : ∀ x ∈ F, x ∈ [X.d, X.du, X.mp, X.s, X.g, X.ov, X.t, X.own]) : JobAt w' X j f pl nd sp fl dr wb := by
  have hn : ∀ x ∈ [j, pl, nd, sp, fl, dr, wb], x ∉ F := fun x hx hm => h.apart x hx (hF x hm)
  exact ⟨hk.keep h.job (hn j (by simp)), h.view.kept hk (hn pl (by simp)) (hn nd (by simp)) (hn sp (by simp)) (hn fl (by simp)) (hn dr (by simp)) (hn wb (by simp)), h.apart⟩
theorem JobAt.cells (h : JobAt w X j f pl nd sp fl dr wb) : w.cell? ⟨j, 0, none⟩ = some (.pointer (some ⟨wb, 0, none⟩)) ∧ w.cell? ⟨wb, 0, none⟩ = some (.pointer (some ⟨dr, 0, none⟩)) ∧ w.cell? ⟨dr, 0, none⟩ = some (.pointer (some ⟨fl, 0, none⟩)) ∧ w.cell? ⟨fl, 0, none⟩ = some (.pointer (some ⟨sp, 0, none⟩)) ∧ w.cell? ⟨sp, 0, none⟩ = some (.pointer (some ⟨nd, 0, none⟩)) ∧ w.cell? ⟨nd, 0, none⟩ = some (.pointer (some ⟨pl, 0, none⟩)) ∧ w.cell? ⟨pl, 0, none⟩ = some (.pointer (some ⟨X.t, 0, none⟩)) :=
  ⟨cell_whole h.job 0, cell_whole h.view.hwk 0, cell_whole h.view.hdr 0, cell_whole h.view.hfl 0, cell_whole h.view.hsp 0, cell_whole h.view.hnd 0, cell_whole h.view.hpl 0⟩
theorem JobAt.lts (h : JobAt w X j f pl nd sp fl dr wb) : j < w.heap.size ∧ wb < w.heap.size ∧ dr < w.heap.size ∧ fl < w.heap.size ∧ sp < w.heap.size ∧ nd < w.heap.size ∧ pl < w.heap.size :=
  ⟨lt_whole h.job, lt_whole h.view.hwk, lt_whole h.view.hdr, lt_whole h.view.hfl, lt_whole h.view.hsp, lt_whole h.view.hnd, lt_whole h.view.hpl⟩
/-- A disk that is burnt, and a job that gives up. -/
theorem thrown_of {D : Dk} {w0 w1 : World} {F : List Nat} (h : JobAt w X j f pl nd sp fl dr wb) (hd : DeadW X.d X.du X.mp D w w1) (hst : ∃ Y life ov op, StoreAt w X.s X.d X.g Y life ov op) (ht : ∃ en, w.heap[X.t]? = some (.cells (txCells X.s X.own en) 204 (0, 0)))
    (hn : (X.s ∉ [X.d, X.du, X.mp]) ∧ X.t ∉ [X.d, X.du, X.mp]) {D0 : Dk} (hS : D.S = D0.S) (hl : D0.life ≤ D.life) (hk : Kept F w0 w) (hF : ∀ x ∈ [X.d, X.du, X.mp], x ∈ F ∨ w0.heap.size ≤ x) :
    Thrown F X.d X.du X.mp D0 w0 w1.heap.size j f (.pointer (some ⟨wb, 0, none⟩)) (w1.alloc (.cells (trCells 3 j) 124)) := by
  obtain ⟨D', h1, h2, h3, h4, h5⟩ := hd
  have ha : Kept [] w1 (w1.alloc (.cells (trCells 3 j) 124)) := (Kept.refl [] w1).alloc _
  have hj := (h.kept h5 (by simp)).kept ha (by simp)
  obtain ⟨Y, life, ov, op, hs⟩ := hst
  obtain ⟨en, ht⟩ := ht
  exact ⟨heap_alloc_new _ _, hj.job, ⟨D', ⟨ha.keep h1.blk (by simp), h1.lft, h1.lif, h1.rng⟩, h2, h3.trans hS, Nat.le_trans hl h4⟩, (hk.trans h5 hF).trans ha (by simp),
    .inr ⟨pl, nd, sp, fl, dr, wb, X.t, X.s, X.own, X.g, Y, life, ov, op, en, rfl, hj.view, (hs.kept h5 hn.1).kept ha (by simp), ha.keep (h5.keep ht hn.2) (by simp)⟩⟩
set_option maxRecDepth 100000 in
set_option maxHeartbeats 2000000 in
theorem jcommit_walk (ok : TxOk X) (h : TxAt w X n m) (hj : JobAt w X j f pl nd sp fl dr wb) (l : List UInt8) (HC : Calls Tryz.prog 65 #[.pointer (some ⟨X.t, 0, none⟩)] w (CommitPost X n m l w)) :
    Calls Tryz.prog 24 #[.pointer (some ⟨j, 0, none⟩)] w fun e w' => ThrownP [X.d, X.du, X.mp] X.d X.du X.mp X.D w e w' ∨ (e = .returned (.tuple #[]) ∧ ∃ D', Committed X n m l w w' D') := by
  have HCC := Lib.hid HC
  have HJ := Lib.hid hj
  have H := Lib.hid h
  have HOK := Lib.hid ok
  obtain ⟨c0, c1, c2, c3, c4, c5, c6⟩ := hj.cells
  obtain ⟨l0, l1, l2, l3, l4, l5, l6⟩ := hj.lts
  clear HC hj h ok
  go_enter Tryz.func24, Tryz.ntmps24
  go_wp2_with fail
  refine HCC.out.mono ?_
  rintro e w1 (⟨rfl, hd⟩ | ⟨rfl, D', hc⟩)
  · have HD := Lib.hid hd
    have hj1 : w1.heap[j]? = some (.cells (jobCells (.pointer (some ⟨wb, 0, none⟩)) f) 75 (0, 0)) := by
      obtain ⟨_, _, _, _, _, h5⟩ := hd
      exact (HJ.out.kept h5 (by simp)).job
    have HB := Lib.hid (jmust_bad j f _ w1 hj1)
    clear hd hj1
    go_wp2_with fail
    refine HB.out.mono ?_
    rintro e w2 ⟨he, hw2⟩
    have HEND := Lib.hid (show ThrownP [X.d, X.du, X.mp] X.d X.du X.mp X.D w e w2 ∨ (e = .returned (.tuple #[]) ∧ ∃ D', Committed X n m l w w2 D') from .inl ⟨w1.heap.size, j, f, .pointer (some ⟨wb, 0, none⟩), he, by
      rw [hw2]
      exact thrown_of HJ.out HD.out ⟨_, _, _, _, H.out.store⟩ ⟨_, H.out.tx⟩ ⟨by
        have := HOK.out.nd; have := HOK.out.ndu; have := HOK.out.nmp
        simp; omega, by
        have := HOK.out.nd; have := HOK.out.ndu; have := HOK.out.nmp
        simp; omega⟩ rfl (Nat.le_refl _) (Kept.refl _ w) (fun x hx => .inl hx)⟩)
    unfold thrownE at he
    subst he
    clear hw2
    go_wp2
    exact ⟨rfl, HEND.out⟩
  · have HEND := Lib.hid (show ThrownP [X.d, X.du, X.mp] X.d X.du X.mp X.D w (.returned (.tuple #[])) w1 ∨ ((.returned (.tuple #[]) : Ending) = .returned (.tuple #[]) ∧ ∃ D', Committed X n m l w w1 D') from .inr ⟨rfl, D', hc⟩)
    clear hc
    go_wp2_with fail
    refine (jmust_ok j w1).mono ?_
    rintro e w2 ⟨rfl, rfl⟩
    go_wp2
    go_end0
    exact HEND.out.imp id (fun h => ⟨rfl, h.2⟩)
end
end Go.Proofs.YtikfphojehgpjaaGreatDoor
/- What Mkfs lays: plain Lean. -/
namespace Go.Proofs.YtikfphojehgpjaaGreatDoor
open Go.RowKit Vl Go.Maps Go.ChangeMaps
set_option linter.unusedVariables false

/-- A bit of a bitmap. -/
def bitOf (l : List UInt8) (i : Nat) : Bool := (l.getD (i / 8) 0).toNat.testBit (i % 8)
theorem bitOf_zsec (i : Nat) : bitOf zsec i = false := by
  unfold bitOf zsec
  rw [List.getD_eq_getElem?_getD, List.getElem?_replicate]
  split <;> simp
theorem bitOf_bm (k : Nat) (hk : k ≤ 4096) (i : Nat) : bitOf (bmB k) i = decide (i < k) := by
  induction k with
  | zero => rw [bmB, bitOf_zsec]; simp
  | succ k ih =>
    have hl := bmB_length k
    have ih := ih (by omega)
    unfold bitOf at ih ⊢
    rw [bmB]
    by_cases h : i / 8 = k / 8
    · have hlt : k / 8 < (bmB k).length := by omega
      rw [h, List.getD_eq_getElem?_getD, List.getElem?_set_self hlt, Option.getD_some]
      rw [h] at ih
      unfold orBit
      have h256 : ((bmB k).getD (k / 8) 0).toNat < 256 := ((bmB k).getD (k / 8) 0).toNat_lt
      have hp : 2 ^ (k % 8) < 256 := by
        have : 2 ^ (k % 8) ≤ 2 ^ 7 := Nat.pow_le_pow_right (by omega) (by omega)
        omega
      have ho : ((bmB k).getD (k / 8) 0).toNat ||| 2 ^ (k % 8) < 256 := Nat.or_lt_two_pow (n := 8) h256 hp
      rw [UInt8.toNat_ofNat', Nat.mod_eq_of_lt ho, Nat.testBit_or, ih, Nat.testBit_two_pow]
      by_cases he : i = k
      · subst he; simp
      · have h8 : ¬ k % 8 = i % 8 := fun e => he (by omega)
        rw [decide_eq_false h8, Bool.or_false]
        by_cases hi : i < k
        · rw [decide_eq_true hi, decide_eq_true (by omega)]
        · rw [decide_eq_false hi, decide_eq_false (by omega)]
    · rw [List.getD_eq_getElem?_getD, List.getElem?_set_ne (fun e => h e.symm), ← List.getD_eq_getElem?_getD, ih]
      by_cases hi : i < k
      · rw [decide_eq_true hi, decide_eq_true (by omega)]
      · rw [decide_eq_false hi, decide_eq_false (fun e => h (by omega))]
def oneB : List UInt8 := zsec.set 0 1
theorem oneB_length : oneB.length = 512 := by unfold oneB; rw [List.length_set]; exact zsec_length
theorem bitOf_one (i : Nat) : bitOf oneB i = decide (i = 0) := by
  unfold bitOf oneB
  by_cases h : i / 8 = 0
  · rw [h, List.getD_eq_getElem?_getD, List.getElem?_set_self (by rw [zsec_length]; omega), Option.getD_some]
    have : i = 0 ∨ i = 1 ∨ i = 2 ∨ i = 3 ∨ i = 4 ∨ i = 5 ∨ i = 6 ∨ i = 7 := by omega
    rcases this with rfl | rfl | rfl | rfl | rfl | rfl | rfl | rfl <;> decide
  · rw [List.getD_eq_getElem?_getD, List.getElem?_set_ne (fun e => h e.symm), ← List.getD_eq_getElem?_getD]
    have := bitOf_zsec i
    unfold bitOf at this
    rw [this, decide_eq_false (by omega)]
def tblB : List UInt8 := over zsec 0 rootB
theorem tblB_length : tblB.length = 512 := by unfold tblB; rw [over_length (by rw [rootB_length, zsec_length]; omega), zsec_length]
set_option maxRecDepth 100000 in
theorem tblB_head : tblB.getD 0 0 = 2 := by decide +kernel
/-- The blocks that Mkfs lays. -/
def mkR (data b : Nat) : List UInt8 := if b = 0 then bmB data else if b = 1 then oneB else tblB
theorem mkR_length (data b : Nat) : (mkR data b).length = 512 := by
  unfold mkR
  split
  · exact bmB_length _
  · split
    · exact oneB_length
    · exact tblB_length
theorem mkR_ne (data b : Nat) (h1 : 1 ≤ data) (h2 : data ≤ 4096) : mkR data b ≠ zsec := by
  unfold mkR
  split
  · intro e
    have := bitOf_bm data h2 0
    rw [e, bitOf_zsec, decide_eq_true (by omega)] at this
    cases this
  · split
    · intro e
      have := bitOf_one 0
      rw [e, bitOf_zsec] at this
      cases this
    · intro e
      have := tblB_head
      rw [e] at this
      revert this
      decide +kernel
def mkKs : List Nat := [0, 1, 2]
/-- The record of the transaction. -/
def mkRec (data : Nat) : List UInt8 := packB mkKs (mkR data)
theorem mkRec_length (data : Nat) : (mkRec data).length = 1550 := by
  unfold mkRec packB mkKs
  simp only [List.flatMap_cons, List.flatMap_nil, List.length_append, leB_length, mkR_length, List.length_nil, List.length_cons]
/-- The blocks of the transaction. -/
def mkM (data : Nat) (b : Nat) : Option (List UInt8) := if b < 3 then some (mkR data b) else none
/-- The sectors behind Mkfs. -/
def mkIm (f : Nat → List UInt8) (L N : Nat) : Nat → List UInt8 :=
  anchNow (homed (laid f 1 2 4 (mkRec (2 + N / 4)) 4) (3 + L) (mkR (2 + N / 4)) mkKs) 1 8589934596
theorem seen_none (X : TxC) (m : Nat → Option (List UInt8)) (b : Nat) (h : m b = none) : seen X m b = X.D.now (X.Y.home + b) := by unfold seen; rw [h]; rfl
theorem put_ne {X : TxC} {m : Nat → Option (List UInt8)} {b : Nat} {l : List UInt8} (h : seen X m b ≠ l) : PutTo X m b l = upd m b (some l) := if_neg h
theorem made_is (X : TxC) (h0 : ∀ b, b < 3 → X.D.now (X.Y.home + b) = zsec) (h1 : 1 ≤ X.Y.data) (h2 : X.Y.data ≤ 4096) :
    Made X (PutTo X (PutTo X (fun _ => none) 0 (bmB X.Y.data)) 1 zsec) = mkM X.Y.data := by
  have e0 : PutTo X (fun _ => none) 0 (bmB X.Y.data) = upd (fun _ => none) 0 (some (bmB X.Y.data)) := put_ne (by
    rw [seen_none X _ 0 rfl, h0 0 (by omega)]
    exact fun e => mkR_ne X.Y.data 0 h1 h2 e.symm)
  have s1 : ∀ b, b = 1 ∨ b = 2 → seen X (upd (fun _ => none) 0 (some (bmB X.Y.data))) b = zsec := fun b hb => by
    rw [seen_none X _ b (by rw [upd_other _ _ (by omega)]), h0 b (by omega)]
  have e1 : PutTo X (PutTo X (fun _ => none) 0 (bmB X.Y.data)) 1 zsec = upd (fun _ => none) 0 (some (bmB X.Y.data)) := by
    rw [e0]
    unfold PutTo
    rw [if_pos (s1 1 (.inl rfl))]
  rw [e1]
  unfold Made
  rw [s1 1 (.inl rfl), s1 2 (.inr rfl)]
  have e2 : PutTo X (upd (fun _ => none) 0 (some (bmB X.Y.data))) 1 (zsec.set 0 1) = upd (upd (fun _ => none) 0 (some (bmB X.Y.data))) 1 (some oneB) := put_ne (by
    rw [s1 1 (.inl rfl)]
    exact fun e => mkR_ne X.Y.data 1 h1 h2 e.symm)
  rw [e2]
  have e3 : PutTo X (upd (upd (fun _ => none) 0 (some (bmB X.Y.data))) 1 (some oneB)) 2 (over zsec 0 rootB) = upd (upd (upd (fun _ => none) 0 (some (bmB X.Y.data))) 1 (some oneB)) 2 (some tblB) := put_ne (by
    rw [seen_none X _ 2 (by rw [upd_other _ _ (by omega), upd_other _ _ (by omega)]), h0 2 (by omega)]
    exact fun e => mkR_ne X.Y.data 2 h1 h2 e.symm)
  rw [e3]
  funext b
  unfold mkM mkR
  by_cases b0 : b = 2
  · subst b0; rw [upd_same]; rfl
  · rw [upd_other _ _ b0]
    by_cases b1 : b = 1
    · subst b1; rw [upd_same]; rfl
    · rw [upd_other _ _ b1]
      by_cases b2 : b = 0
      · subst b2; rw [upd_same]; rfl
      · rw [upd_other _ _ b2, if_neg (by omega)]
theorem chg_is (X : TxC) (h0 : ∀ b, b < 3 → X.D.now (X.Y.home + b) = zsec) (h1 : 1 ≤ X.Y.data) (h2 : X.Y.data ≤ 4096) : chg X (mkM X.Y.data) = mkM X.Y.data := by
  funext b
  unfold chg dif
  by_cases hb : b < 3
  · have : mkM X.Y.data b = some (mkR X.Y.data b) := if_pos hb
    rw [this, h0 b hb]
    have hne : (zsec == mkR X.Y.data b) = false := by
      rw [beq_eq_false_iff_ne]
      exact fun e => mkR_ne X.Y.data b h1 h2 e.symm
    simp [hne]
  · have : mkM X.Y.data b = none := if_neg hb
    rw [this]
    simp
end Go.Proofs.YtikfphojehgpjaaGreatDoor
/- fs: the checkpoint of Mkfs: what it finds. -/
namespace Go.Proofs.YtikfphojehgpjaaGreatDoor
open Go.RowKit Vl Go.Maps Go.ChangeMaps
set_option linter.unusedVariables false
theorem laid_lo (f : Nat → List UInt8) (first ep cnt : Nat) (l : List UInt8) (k j : Nat) (hj : j < first + 2) : laid f first ep cnt l k j = f j := by
  induction k with
  | zero => rfl
  | succ k ih => rw [laid, upd_other _ _ (by omega), ih]
theorem mk_ck {X : TxC} {D5 : Dk} {w4 w5 : World} (ok : TxOk X) (hc : Committed X 4 (mkM X.Y.data) (mkRec X.Y.data) w4 w5 D5) (hcm : chg X (mkM X.Y.data) = mkM X.Y.data) (hb : 3 ≤ X.Y.blocks)
    (h1 : X.L.first = 1) (h2 : X.L.epoch = 2) (h3 : X.L.tail = 0) (h4 : X.L.started = true) (hh : 3 ≤ X.Y.home) (left : Bodied (X.D.now 1) ∧ anchorN (X.D.now 1) < 8589934596) (right : Bodied (X.D.now 2) ∧ anchorN (X.D.now 2) < 8589934596) :
    CkIn X.d X.du X.mp X.base D5 X.s X.g X.Y X.ov 4 false (mkM X.Y.data) (mkR X.Y.data) mkKs { X.L with head := 4 } w5 := by
  have hlen := mkRec_length X.Y.data
  have hnow := hc.now
  have hlog := hc.log
  have e4 : ((mkRec X.Y.data).length + 491) / 492 = 4 := by rw [hlen]
  rw [e4, h1, h2] at hnow
  rw [e4] at hlog
  have n1 : D5.now 1 = X.D.now 1 := by rw [hnow]; exact laid_lo _ _ _ _ _ _ _ (by omega)
  have n2 : D5.now 2 = X.D.now 2 := by rw [hnow]; exact laid_lo _ _ _ _ _ _ _ (by omega)
  have hfit := ok.fit
  have hS : D5.S = X.D.S := hc.sim.S
  have hov := hc.ovl
  rw [hcm] at hov
  exact {
    disk := hc.disk
    store := by rw [hc.sim.life]; exact hc.store
    own := hov
    log := hlog
    hn := by omega
    sorted := by decide
    mem := fun x => by
      unfold mkM mkKs
      by_cases hx : x < 3
      · rw [if_pos hx]; simp; omega
      · rw [if_neg hx]; simp; omega
    ne := by decide
    len := by decide
    fit := fun b hb' => by
      unfold mkKs at hb'
      simp at hb'
      rw [hS]; omega
    row := fun b hb' => by
      unfold mkKs at hb'
      simp at hb'
      exact if_pos (by omega)
    life := by rw [hc.sim.life]; exact ok.life
    started := h4
    head := by show X.L.tail ≠ 4; rw [h3]; omega
    first := by show X.L.first + 1 < X.Y.home ∧ X.L.first + 1 < D5.S; rw [h1, hS]; omega
    left := by show Bodied (D5.now X.L.first); rw [h1, n1]; exact left.1
    right := by show Bodied (D5.now (X.L.first + 1)); rw [h1, n2]; exact right.1
    epB := by show 1 ≤ X.L.epoch ∧ X.L.epoch ≤ 1000000000; rw [h2]; omega
    newL := by show anchorN (D5.now X.L.first) < X.L.epoch * 4294967296 + 4; rw [h1, h2, n1]; exact left.2
    newR := by show anchorN (D5.now (X.L.first + 1)) < X.L.epoch * 4294967296 + 4; rw [h1, h2, n2]; exact right.2
    low := ⟨ok.low.2.2.1, ok.low.2.2.2.1, ok.low.2.2.2.2.1⟩
    nd := ⟨ok.nd.2.2.1, ok.nd.2.2.2.1, ok.nd.2.2.2.2⟩
    ndu := ⟨ok.ndu.2.2.1, ok.ndu.2.2.2.1, ok.ndu.2.2.2.2⟩
    nmp := ⟨ok.nmp.2.2.1, ok.nmp.2.2.2.1, ok.nmp.2.2.2.2⟩
    ns := ok.ns }
end Go.Proofs.YtikfphojehgpjaaGreatDoor
/- fs: Mkfs's closure. -/
namespace Go.Proofs.YtikfphojehgpjaaGreatDoor
open Go.RowKit Vl Go.Maps Go.ChangeMaps
set_option linter.unusedVariables false
theorem DiskAt.raise {w : World} {d du mp base b' : Nat} {D : Dk} (h : DiskAt w d du mp base D) (hp : ∀ i, D.pend i = none) (h1 : base ≤ b') (h2 : b' ≤ w.heap.size) : DiskAt w d du mp b' D := by
  obtain ⟨l1, l2, l3⟩ := h.low
  refine ⟨h.blk, h.bytes, h.len, h.pos, h.ne, ⟨by omega, by omega, by omega⟩, ?_, h.lft, h.lif, h.rng, h2⟩
  obtain ⟨m, hm, hmp⟩ := h.pend
  refine ⟨m, hm, fun i => ?_⟩
  rcases hmp i with h3 | ⟨_, l, v, h3, _⟩
  · exact .inl h3
  · rw [hp i] at h3; cases h3
structure MkIn (w : World) (s d g du mp ov base sb : Nat) (D : Dk) (L N : Nat) : Prop where
  disk : DiskAt w d du mp base D
  geo : Geo D.S L N
  pend : ∀ i, D.pend i = none
  np : D.np = 0
  life : D.life < 1000000
  log : LogAt w g d (opened L D.life)
  store : StoreAt w s d g (layOf D.S L N) D.life ov false
  ovl : PM w ov 0 (fun _ => none)
  cell : w.heap[sb]? = some (.cells #[.pointer (some ⟨s, 0, none⟩)] 54 (0, 0))
  home : ∀ b, b < D.S - (3 + L) → D.now (3 + L + b) = zsec
  left : Bodied (D.now 1) ∧ anchorN (D.now 1) < 8589934596
  right : Bodied (D.now 2) ∧ anchorN (D.now 2) < 8589934596
  low : s < base ∧ g < base ∧ ov < base
  nd : d ≠ s ∧ d ≠ g ∧ d ≠ ov ∧ d ≠ sb
  ndu : du ≠ s ∧ du ≠ g ∧ du ≠ ov ∧ du ≠ sb
  nmp : mp ≠ s ∧ mp ≠ g ∧ mp ≠ ov ∧ mp ≠ sb
  ne : s ≠ g ∧ s ≠ ov ∧ g ≠ ov ∧ sb ≠ s ∧ sb ≠ g ∧ sb ≠ ov
def Mk1Post (s d g du mp ov : Nat) (D : Dk) (L N : Nat) (w : World) (e : Ending) (w' : World) : Prop :=
  ThrownP [d, du, mp, s, g, ov] d du mp D w e w' ∨
  (e = .returned (.tuple #[]) ∧ ∃ D' base', DiskAt w' d du mp base' D' ∧ Sim D D' ∧ Flushed D' (mkIm D.now L N) ∧ Kept [d, du, mp, s, g, ov] w w')
/-- The transaction as it begins. -/
def mkX (t own s d g du mp ov base : Nat) (D : Dk) (L N : Nat) : TxC := { t := t, own := own, s := s, g := g, ov := ov, d := d, du := du, mp := mp, base := base, D := D, Y := layOf D.S L N, L := opened L D.life }
section
variable {w w2 : World} {s d g du mp ov base sb t own : Nat} {D : Dk} {L N : Nat}
theorem mk_ok (h : MkIn w s d g du mp ov base sb D L N) (hb : D.burnt = false) (h1 : w.heap.size ≤ t) (h2 : w.heap.size ≤ own) (h3 : t ≠ own) (lt1 : t < w2.heap.size) (lt2 : own < w2.heap.size) (hs : w.heap.size ≤ w2.heap.size) :
    TxOk (mkX t own s d g du mp ov w2.heap.size D L N) := by
  have hlow := h.low
  have hdl := h.disk.low
  have hbl := h.disk.base_le
  have hg := h.geo
  have g1 := hg.s1
  have g2 := hg.s2
  have a1 : d ≠ t ∧ d ≠ own ∧ du ≠ t ∧ du ≠ own ∧ mp ≠ t ∧ mp ≠ own ∧ own ≠ s ∧ own ≠ g ∧ own ≠ ov ∧ t ≠ s ∧ t ≠ g ∧ t ≠ ov := by
    clear h3
    refine ⟨?_, ?_, ?_, ?_, ?_, ?_, ?_, ?_, ?_, ?_, ?_, ?_⟩ <;> omega
  obtain ⟨b1, b2, b3, b4, b5, b6, b7, b8, b9, b10, b11, b12⟩ := a1
  obtain ⟨n1, n2, n3, _⟩ := h.nd
  obtain ⟨u1, u2, u3, _⟩ := h.ndu
  obtain ⟨m1, m2, m3, _⟩ := h.nmp
  obtain ⟨e1, e2, e3, _⟩ := h.ne
  refine ⟨hb, h.pend, rfl, ?_, g1, ?_, ⟨b1, b2, n1, n2, n3⟩, ⟨b3, b4, u1, u2, u3⟩, ⟨b5, b6, m1, m2, m3⟩, ⟨h3.symm, b7, b8, b9⟩, ⟨b10, b11, b12⟩, ⟨e1, e2, e3⟩⟩
  · show 3 + L + (D.S - (3 + L)) ≤ D.S
    clear b1 b2 b3 b4 b5 b6 b7 b8 b9 b10 b11 b12 n1 n2 n3 u1 u2 u3 m1 m2 m3 e1 e2 e3 h3
    omega
  · clear b1 b2 b3 b4 b5 b6 b7 b8 b9 b10 b11 b12 n1 n2 n3 u1 u2 u3 m1 m2 m3 e1 e2 e3 h3
    show t < w2.heap.size ∧ own < w2.heap.size ∧ s < w2.heap.size ∧ g < w2.heap.size ∧ ov < w2.heap.size ∧ d < w2.heap.size ∧ du < w2.heap.size ∧ mp < w2.heap.size
    omega
theorem mk_tx (h : MkIn w s d g du mp ov base sb D L N) (hk : Kept [s] w w2) (ht : w2.heap[t]? = some (.cells (txCells s own false) 204 (0, 0))) (ho : PM w2 own 0 (fun _ => none)) (hst : StoreAt w2 s d g (layOf D.S L N) D.life ov true) :
    TxAt w2 (mkX t own s d g du mp ov w2.heap.size D L N) 0 (fun _ => none) := by
  have hlow := h.low
  have hbl := h.disk.base_le
  have hs := hk.size
  refine ⟨⟨D.rd, ?_⟩, ?_, hst, ?_, ht, _, ho, fun b => .inl ⟨rfl, rfl⟩⟩
  · exact (h.disk.kept hk (by simp; exact h.nd.1) (by simp; exact h.ndu.1) (by simp; exact h.nmp.1) (by simp; exact hlow.1)).raise h.pend (Nat.le_trans hbl hs) (Nat.le_refl _)
  · exact h.log.kept hk (by simp; exact h.ne.1.symm)
  · exact h.ovl.keep (hk.block ov h.ovl.lt (by simp; exact h.ne.2.1.symm))
theorem mk_job {j f pl nd sp fl dr wb : Nat} (h : MkIn w s d g du mp ov base sb D L N) (hj : w2.heap[j]? = some (.cells (jobCells (.pointer (some ⟨wb, 0, none⟩)) f) 75 (0, 0))) (hv : ViewAt w2 t pl nd sp fl dr wb)
    (h1 : ∀ x ∈ [j, pl, nd, sp, fl, dr, wb], w.heap.size ≤ x ∧ x ≠ t ∧ x ≠ own) : JobAt w2 (mkX t own s d g du mp ov w2.heap.size D L N) j f pl nd sp fl dr wb := by
  have hlow := h.low
  have hdl := h.disk.low
  have hbl := h.disk.base_le
  refine ⟨hj, hv, fun x hx => ?_⟩
  obtain ⟨h2, h3, h4⟩ := h1 x hx
  show x ∉ [d, du, mp, s, g, ov, t, own]
  intro hm
  simp only [List.mem_cons, List.not_mem_nil, or_false] at hm
  rcases hm with e | e | e | e | e | e | e | e
  · omega
  · omega
  · omega
  · omega
  · omega
  · omega
  · exact h3 e
  · exact h4 e
end
set_option maxRecDepth 100000 in
set_option maxHeartbeats 4000000 in
theorem mk1_walk (w : World) (s d g du mp ov base sb : Nat) (D : Dk) (L N : Nat) (h : MkIn w s d g du mp ov base sb D L N) :
    Calls Tryz.prog 19 #[.pointer (some ⟨sb, 0, none⟩)] w (Mk1Post s d g du mp ov D L N w) := by
  have H := Lib.hid h
  have hlow := h.low
  have hdl := h.disk.low
  have hbl := h.disk.base_le
  have hk1 := (Kept.refl [] w).alloc (.cells #[.pointer (some ⟨s, 0, none⟩), .map none] 61)
  have hf1 := heap_alloc_new w (.cells #[.pointer (some ⟨s, 0, none⟩), .map none] 61)
  have s0 := cell_whole h.cell 0
  have sl := lt_whole h.cell
  simp only [List.getElem?_toArray, List.getElem?_cons_zero] at s0
  have HB := Lib.hid (fbegin_walk (w.alloc (.cells #[.pointer (some ⟨s, 0, none⟩), .map none] 61)) (h.disk.kept0 hk1) (h.store.kept hk1 (by simp)) hf1)
  clear h
  go_enter Tryz.func19, Tryz.ntmps19
  go_upto_region 1 with fail
  generalize w.alloc (.cells #[.pointer (some ⟨s, 0, none⟩), .map none] 61) = w1 at *
  generalize hf : w.heap.size = f at *
  have HF := Lib.hid hf
  have HK1 := Lib.hid hk1
  clear hk1 hf1 hf s0
  go_wp2_with fail
  refine HB.out.mono ?_
  rintro e w2 (⟨hb, tr, j', f', wk, he, hT⟩ | ⟨hb, j, rfl, hjf, t, own, pl, nd, sp, fl, dr, wb, h1, h2, h3, h4, h5, h6, h7, h8, h9, hk2⟩)
  · have HEND := Lib.hid (show Mk1Post s d g du mp ov D L N w e w2 from .inl ⟨tr, j', f', wk, he, hT.tr_, hT.job, hT.disk, (HK1.out.trans hT.kept (by simp)).mono (by simp), hT.walk⟩)
    unfold thrownE at he
    subst he
    clear hT HB
    go_wp2
    exact ⟨rfl, HEND.out⟩
  · have hs01 := HK1.out.size
    rw [HF.out] at hs01
    have hk02 : Kept [s] w w2 := (HK1.out.mono (G := [s]) (by simp)).trans hk2 (by simp)
    have ok := mk_ok (w2 := w2) H.out hb (t := t) (own := own) (by rw [HF.out]; exact Nat.le_trans hs01 h1) (by rw [HF.out]; exact Nat.le_trans hs01 h2) h3 (lt_whole h4) h5.lt hk02.size
    have htx := mk_tx H.out hk02 h4 h5 h6
    have hjob := mk_job (own := own) H.out h7 h8 (fun x hx => ⟨by rw [HF.out]; exact Nat.le_trans hs01 (h9 x hx).1, (h9 x hx).2⟩)
    obtain ⟨X, HX⟩ : ∃ X, Hid (mkX t own s d g du mp ov w2.heap.size D L N = X) := ⟨_, Lib.hid rfl⟩
    have HXY := Lib.hid (show X.Y = layOf D.S L N from HX.out ▸ rfl)
    have HXD := Lib.hid (show X.D = D from HX.out ▸ rfl)
    have HXF := Lib.hid (show X.d = d ∧ X.du = du ∧ X.mp = mp ∧ X.s = s ∧ X.g = g ∧ X.ov = ov ∧ X.t = t ∧ X.own = own ∧ X.L = opened L D.life from HX.out ▸ ⟨rfl, rfl, rfl, rfl, rfl, rfl, rfl, rfl, rfl⟩)
    rw [HX.out] at ok htx hjob
    have HGEO := Lib.hid H.out.geo
    have hdata : 1 ≤ X.Y.data ∧ X.Y.data ≤ 4000 ∧ X.Y.data ≤ 4096 ∧ 3 ≤ X.Y.blocks ∧ 2 ≤ X.Y.blocks ∧ 4 ≤ X.Y.nodes ∧ X.Y.nodes ≤ 1024 := by
      rw [HXY.out]
      have g1 := HGEO.out.s1
      have g2 := HGEO.out.s2
      have g3 := HGEO.out.n1
      have g4 := HGEO.out.n2
      show 1 ≤ 2 + N / 4 ∧ 2 + N / 4 ≤ 4000 ∧ 2 + N / 4 ≤ 4096 ∧ 3 ≤ D.S - (3 + L) ∧ 2 ≤ D.S - (3 + L) ∧ 4 ≤ N ∧ N ≤ 1024
      omega
    have hz : ∀ b, b < 3 → X.D.now (X.Y.home + b) = zsec := by
      rw [HXD.out, HXY.out]
      intro b hb3
      refine H.out.home b ?_
      have g2 := HGEO.out.s2
      have g3 := HGEO.out.n1
      omega
    have HZ := Lib.hid hz
    have HDT := Lib.hid hdata
    have HOK := Lib.hid ok
    have HT2 := Lib.hid htx
    have HJ2 := Lib.hid hjob
    have HK2 := Lib.hid (hk02.mono (G := [d, du, mp, s, g, ov]) (by simp))
    have HON := Lib.hid (show w.heap.size ≤ t ∧ w.heap.size ≤ own by rw [HF.out]; exact ⟨Nat.le_trans hs01 h1, Nat.le_trans hs01 h2⟩)
    obtain ⟨c0, c1, c2, c3, c4, c5, c6⟩ := hjob.cells
    obtain ⟨l0, l1, l2, l3, l4, l5, l6⟩ := hjob.lts
    have HCL := Lib.hid (clear_walk ok htx (by omega) pl hjob.view.hpl ⟨fun e => hjob.apart pl (by simp) (by rw [e]; simp), fun e => hjob.apart pl (by simp) (by rw [e]; simp)⟩ hdata.2.1 hdata.2.2.2.2.1)
    clear hz hdata ok htx hjob hk02 h1 h2 h3 h4 h5 h6 h7 h8 h9 hk2 HB
    go_wp2_with fail
    refine HCL.out.mono ?_
    rintro e w3 ⟨rfl, ht3, hk3⟩
    have hj3 := HJ2.out.kept hk3 (by simp)
    have HJ3 := Lib.hid hj3
    have HK3 := Lib.hid (HK2.out.trans hk3 (by
      have h1 := HON.out
      rw [HXF.out.1, HXF.out.2.2.2.2.2.2.2.1]
      simp; exact .inr h1.2))
    have hs1 : seen X (PutTo X (PutTo X (fun _ => none) 0 (bmB X.Y.data)) 1 zsec) 1 = zsec := by rw [seen_put]; rfl
    have hs2 : seen X (PutTo X (PutTo X (fun _ => none) 0 (bmB X.Y.data)) 1 zsec) 2 = zsec := by rw [seen_put, if_neg (by omega), seen_put, if_neg (by omega), seen_none X _ 2 rfl, HZ.out 2 (by omega)]
    have hmd := made_is X HZ.out HDT.out.1 HDT.out.2.2.1
    obtain ⟨M, HM⟩ : ∃ M, Hid (PutTo X (PutTo X (fun _ => none) 0 (bmB X.Y.data)) 1 zsec = M) := ⟨_, Lib.hid rfl⟩
    rw [HM.out] at hs1 hs2 hmd ht3
    have HMD := Lib.hid hmd
    have HMK := Lib.hid (make_walk HOK.out ht3 nd pl hj3.view.hnd hj3.view.hpl HDT.out.2.2.2.1 HDT.out.2.2.2.2.2 (by omega) (by rw [hs1]; exact zsec_length) (by rw [hs1]; rfl) (by rw [hs2]; exact zsec_length) ⟨fun hm => hj3.apart nd (by simp) (by simp at hm ⊢; rcases hm with e | e <;> simp [e]), fun hm => hj3.apart pl (by simp) (by simp at hm ⊢; rcases hm with e | e <;> simp [e])⟩)
    obtain ⟨d0, d1, d2, d3, d4, d5, d6⟩ := hj3.cells
    obtain ⟨k0, k1, k2, k3, k4, k5, k6⟩ := hj3.lts
    clear hs1 hs2 hmd ht3 hk3 hj3 c0 c1 c2 c3 c4 c5 c6 l0 l1 l2 l3 l4 l5 l6 HCL
    go_wp2_with fail
    refine (jmust_ok j w3).mono ?_
    rintro e w3' ⟨rfl, rfl⟩
    go_wp2_with fail
    refine HMK.out.mono ?_
    rintro e w4 ⟨rfl, ht4, hk4⟩
    rw [HMD.out] at ht4
    have hj4 := HJ3.out.kept hk4 (by simp)
    have HJ4 := Lib.hid hj4
    have HT4 := Lib.hid ht4
    have HK4 := Lib.hid (HK3.out.trans hk4 (by
      have h1 := HON.out
      rw [HXF.out.1, HXF.out.2.2.2.2.2.2.2.1]
      simp; exact .inr h1.2))
    clear hk4 hj4 ht4 HMK d0 d1 d2 d3 d4 d5 d6 k0 k1 k2 k3 k4 k5 k6
    go_wp2_with fail
    refine (jmust_ok j w4).mono ?_
    rintro e w4' ⟨rfl, rfl⟩
    have hcm := chg_is X HZ.out HDT.out.1 HDT.out.2.2.1
    have HCM := Lib.hid hcm
    have HCO := commit_walk HOK.out HT4.out (by omega) (fun b hb => by
      have : b < 3 := by
        unfold mkM at hb
        split at hb
        · assumption
        · exact absurd rfl hb
      have := HDT.out.2.2.2.1
      omega) mkKs (mkR X.Y.data) (mkRec X.Y.data) rfl (by rw [mkRec_length]; omega) (by decide) (fun x => by
      rw [hcm]
      unfold mkM mkKs
      by_cases hx : x < 3
      · rw [if_pos hx]; simp; omega
      · rw [if_neg hx]; simp; omega) (by decide) (by decide) (fun b hb => by
      rw [hcm]
      unfold mkM
      rw [if_pos (by unfold mkKs at hb; simp at hb; omega)]) (by rw [HXF.out.2.2.2.2.2.2.2.2]; rfl) (by rw [HXF.out.2.2.2.2.2.2.2.2]; rfl) (by rw [HXF.out.2.2.2.2.2.2.2.2]; rfl) (by rw [HXF.out.2.2.2.2.2.2.2.2, mkRec_length]; show 4 ≤ L; have := HGEO.out.l1; omega) (by rw [HXF.out.2.2.2.2.2.2.2.2, HXD.out]; show 1 + 2 + L ≤ D.S; have := HGEO.out.s2; omega) (by rw [HXD.out, H.out.np]; omega)
    have HJC := Lib.hid (jcommit_walk HOK.out HT4.out HJ4.out _ HCO)
    clear HCO hcm
    go_wp2_with fail
    refine HJC.out.mono ?_
    rintro e w5 (⟨tr, j', f', wk, he, hT⟩ | ⟨rfl, D5, hc⟩)
    · rw [HXF.out.1, HXF.out.2.1, HXF.out.2.2.1, HXD.out] at hT
      have HEND := Lib.hid (show Mk1Post s d g du mp ov D L N w e w5 from .inl ⟨tr, j', f', wk, he, hT.tr_, hT.job, hT.disk, HK4.out.trans hT.kept (by simp), hT.walk⟩)
      unfold thrownE at he
      subst he
      clear hT HJC
      go_wp2
      exact ⟨rfl, HEND.out⟩
    · have hlen := mkRec_length X.Y.data
      have HC := Lib.hid hc
      have hj5 := HJ4.out.kept hc.kept (by simp)
      have HJ5 := Lib.hid hj5
      have hk5 : Kept [d, du, mp, s, g, ov] w w5 := HK4.out.trans hc.kept (by
        have h1 := HON.out
        rw [HXF.out.1, HXF.out.2.2.1, HXF.out.2.2.2.1, HXF.out.2.2.2.2.1, HXF.out.2.2.2.2.2.1, HXF.out.2.2.2.2.2.2.1, HXF.out.2.2.2.2.2.2.2.1]
        simp; exact ⟨.inr h1.1, .inr h1.2⟩)
      have HK5 := Lib.hid hk5
      have hsb := hk5.keep H.out.cell (by
        simp
        exact ⟨H.out.nd.2.2.2.symm, H.out.ndu.2.2.2.symm, H.out.nmp.2.2.2.symm, H.out.ne.2.2.2.1, H.out.ne.2.2.2.2.1, H.out.ne.2.2.2.2.2⟩)
      have sb0 := cell_whole hsb 0
      have sbl := lt_whole hsb
      simp only [List.getElem?_toArray, List.getElem?_cons_zero] at sb0
      have hnow := hc.now
      rw [hlen, HXF.out.2.2.2.2.2.2.2.2, HXD.out] at hnow
      have HNOW := Lib.hid (show D5.now = laid D.now 1 2 4 (mkRec X.Y.data) 4 from hnow)
      have HCK : Hid (Calls Tryz.prog 25 #[.pointer (some ⟨X.s, 0, none⟩)] w5 (CkPost X.d X.du X.mp X.base D5 X.g X.ov X.Y (mkR X.Y.data) mkKs { X.L with head := 4 } w5)) :=
        Lib.hid (checkpoint_walk (mk_ck HOK.out hc HCM.out HDT.out.2.2.2.1 (by rw [HXF.out.2.2.2.2.2.2.2.2]; rfl) (by rw [HXF.out.2.2.2.2.2.2.2.2]; rfl) (by rw [HXF.out.2.2.2.2.2.2.2.2]; rfl) (by rw [HXF.out.2.2.2.2.2.2.2.2]; rfl) (by rw [HXY.out]; show 3 ≤ 3 + L; omega) (by rw [HXD.out]; exact H.out.left) (by rw [HXD.out]; exact H.out.right)))
      rw [HXF.out.2.2.2.1] at HCK
      clear hc hj5 hk5 hsb hnow hlen HJC
      go_wp2_with fail
      refine HCK.out.mono ?_
      rintro e w6 (⟨rfl, hd6⟩ | ⟨rfl, D6, hd6, hsim6, hfl6, hk6⟩)
      · have HD := Lib.hid hd6
        have hj6 : w6.heap[j]? = some (.cells (jobCells (.pointer (some ⟨wb, 0, none⟩)) f) 75 (0, 0)) := by
          obtain ⟨_, _, _, _, _, h5⟩ := hd6
          exact (HJ5.out.kept h5 (by simp)).job
        have HB := Lib.hid (jmust_bad j f _ w6 hj6)
        clear hd6 hj6 sb0 sbl HCK
        go_wp2_with fail
        refine HB.out.mono ?_
        rintro e w7 ⟨he, hw7⟩
        have HEND := Lib.hid (show Mk1Post s d g du mp ov D L N w e w7 from .inl ⟨w6.heap.size, j, f, .pointer (some ⟨wb, 0, none⟩), he, by
          rw [hw7]
          have hnd := HOK.out.nd; have hndu := HOK.out.ndu; have hnmp := HOK.out.nmp
          have hth := thrown_of HJ5.out HD.out ⟨_, _, _, _, HC.out.store⟩ ⟨_, HC.out.tx⟩ ⟨by
            simp; exact ⟨hnd.2.2.1.symm, hndu.2.2.1.symm, hnmp.2.2.1.symm⟩, by
            simp; exact ⟨hnd.1.symm, hndu.1.symm, hnmp.1.symm⟩⟩ (D0 := D) (by rw [HC.out.sim.S, HXD.out]) (by rw [HC.out.sim.life, HXD.out]; exact Nat.le_refl _) HK5.out (by rw [HXF.out.1, HXF.out.2.1, HXF.out.2.2.1]; simp)
          rw [HXF.out.1, HXF.out.2.1, HXF.out.2.2.1] at hth
          exact hth⟩)
        unfold thrownE at he
        subst he
        clear hw7
        go_wp2
        exact ⟨rfl, HEND.out⟩
      · rw [HXF.out.1, HXF.out.2.1, HXF.out.2.2.1] at hd6
        rw [HXF.out.1, HXF.out.2.1, HXF.out.2.2.1, HXF.out.2.2.2.2.1, HXF.out.2.2.2.2.2.1] at hk6
        have hfl : Flushed D6 (mkIm D.now L N) := by
          have := hfl6
          rw [HNOW.out, HXF.out.2.2.2.2.2.2.2.2, HXY.out] at this
          unfold mkIm
          rw [show (8589934596 : Nat) = 2 * 4294967296 + 4 by decide]
          exact this
        have hsm : Sim D D6 := by
          have := HC.out.sim
          rw [HXD.out] at this
          exact this.trans hsim6
        have HEND := Lib.hid (show Mk1Post s d g du mp ov D L N w (.returned (.tuple #[])) w6 from .inr ⟨rfl, D6, X.base, hd6, hsm, hfl, HK5.out.trans hk6 (by simp)⟩)
        clear hd6 hk6 hfl hfl6 hsm hsim6 sb0 sbl HCK
        go_wp2_with fail
        refine (jmust_ok j w6).mono ?_
        rintro e w7 ⟨rfl, rfl⟩
        go_wp2
        go_end0
        exact HEND.out
end Go.Proofs.YtikfphojehgpjaaGreatDoor
/- fs: caught. -/
namespace Go.Proofs.YtikfphojehgpjaaGreatDoor
open Go.RowKit Vl Go.Maps Go.ChangeMaps
set_option linter.unusedVariables false
theorem hta121 (a : Addr) (w : World) : (Instr.typeAssert (.iface 121 (.pointer (some a))) 20 195 true).run Tryz.prog w = .ok (.tuple #[.iface 121 (.pointer (some a)), .bool true]) w := by kernel_rfl
/-- The package's one variable. -/
def Glob (w : World) : Prop := w.cell? ⟨0, 0, none⟩ = some (.iface 305 (.agg #[.pointer (some ⟨1, 195, none⟩)]))
set_option maxRecDepth 100000 in
set_option maxHeartbeats 2000000 in
theorem caught_nil (w : World) : Calls Tryz.prog 49 #[.nilIface] w fun e w' => e = .returned (.pointer none) ∧ Kept [] w w' := by
  have hk := (Kept.refl [] w).alloc (.cells #[.pointer none] 121)
  go_enter Tryz.func49, Tryz.ntmps49
  go_wp2
  go_ret
  exact ⟨rfl, hk⟩
set_option maxRecDepth 100000 in
set_option maxHeartbeats 2000000 in
theorem caught_thrown {F : List Nat} {d du mp : Nat} {D : Dk} {w0 w : World} {tr j f : Nat} {wk : Value} (h : Thrown F d du mp D w0 tr j f wk w) (hg : Glob w) :
    Calls Tryz.prog 49 #[.iface 121 (.pointer (some ⟨tr, 0, none⟩))] w fun e w' => e = .returned (.pointer (some ⟨tr, 0, none⟩)) ∧ Kept [] w w' := by
  have H := Lib.hid h
  have hta := hta121 ⟨tr, 0, none⟩
  have hk1 := (Kept.refl [] w).alloc (.cells #[.pointer none] 121)
  have ha := heap_alloc_new w (.cells #[.pointer none] 121)
  have hgl : 0 < w.heap.size := by
    rcases Nat.eq_zero_or_pos w.heap.size with h0 | h
    · unfold Glob at hg; simp [World.cell?, h0] at hg
    · exact h
  have hg1 : (w.alloc (.cells #[.pointer none] 121)).cell? ⟨0, 0, none⟩ = some (.iface 305 (.agg #[.pointer (some ⟨1, 195, none⟩)])) := (cell_kept hk1 hgl (by simp)).trans hg
  have HA := Lib.hid (as_hit ⟨tr, 0, none⟩ ⟨w.heap.size, 0, none⟩ (.pointer none) (w.alloc (.cells #[.pointer none] 121)) hg1 (cell_whole ha 0) (frozen_whole ha 0))
  clear h hg1
  go_enter Tryz.func49, Tryz.ntmps49
  go_wp2_with fail
  generalize w.alloc (.cells #[.pointer none] 121) = w1 at *
  refine HA.out.mono ?_
  rintro e w2 ⟨rfl, hw2⟩
  have hk2 : Kept [w.heap.size] w1 w2 := by
    rw [hw2]
    exact (((((Kept.refl [w.heap.size] w1).alloc _).alloc _).alloc _).alloc _).setCell _ _ (.inl (by simp))
  have hc2 : w2.heap[w.heap.size]? = some (.cells #[.pointer (some ⟨tr, 0, none⟩)] 121 (0, 0)) := by
    rw [hw2]
    exact set_whole (i := 0) (alloc_whole (alloc_whole (alloc_whole (alloc_whole ha)))) (.pointer (some ⟨tr, 0, none⟩))
  have hk : Kept [] w w2 := hk1.trans hk2 (by simp)
  have HK := Lib.hid hk
  have c0 := cell_whole hc2 0
  have cl := lt_whole hc2
  simp only [List.getElem?_toArray, List.getElem?_cons_zero] at c0
  have htr := hk.keep H.out.tr_ (by simp)
  have hjb := hk.keep H.out.job (by simp)
  have t2 : w2.cell? ⟨tr, 2, none⟩ = some (.pointer (some ⟨j, 0, none⟩)) := cell_whole htr 2
  have tl := lt_whole htr
  have j0 : w2.cell? ⟨j, 0, none⟩ = some wk := cell_whole hjb 0
  have jl := lt_whole hjb
  clear hw2 hk1 hk2 ha htr hjb hc2
  generalize w.heap.size = tc at *
  rcases H.out.walk with hwk | ⟨pl, nd, sp, fl, dr, wb, t, s, own, g, Y, life, ov, op, en, hwk, hv, hst, ht⟩
  · subst hwk
    clear hk
    go_wp2
    go_ret
    exact ⟨rfl, HK.out⟩
  · subst hwk
    obtain ⟨D', h1, h2, h3, h4⟩ := H.out.disk
    have hab := abortW_walk w2 (D := D') (s := s) (g := g) (Y := Y) (life := life) (ov := ov) (op := op) (en := en) (own := own) ⟨hk.keep h1.blk (by simp), h1.lft, h1.lif, h1.rng⟩ h2 (hst.kept hk (by simp)) (hk.keep ht (by simp))
    have HAB := Lib.hid hab
    have hv2 := hv.kept hk (by simp) (by simp) (by simp) (by simp) (by simp) (by simp)
    have e1 : w2.cell? ⟨wb, 0, none⟩ = some (.pointer (some ⟨dr, 0, none⟩)) := cell_whole hv2.hwk 0
    have e2 : w2.cell? ⟨dr, 0, none⟩ = some (.pointer (some ⟨fl, 0, none⟩)) := cell_whole hv2.hdr 0
    have e3 : w2.cell? ⟨fl, 0, none⟩ = some (.pointer (some ⟨sp, 0, none⟩)) := cell_whole hv2.hfl 0
    have e4 : w2.cell? ⟨sp, 0, none⟩ = some (.pointer (some ⟨nd, 0, none⟩)) := cell_whole hv2.hsp 0
    have e5 : w2.cell? ⟨nd, 0, none⟩ = some (.pointer (some ⟨pl, 0, none⟩)) := cell_whole hv2.hnd 0
    have e6 : w2.cell? ⟨pl, 0, none⟩ = some (.pointer (some ⟨t, 0, none⟩)) := cell_whole hv2.hpl 0
    have f1 := lt_whole hv2.hwk
    have f2 := lt_whole hv2.hdr
    have f3 := lt_whole hv2.hfl
    have f4 := lt_whole hv2.hsp
    have f5 := lt_whole hv2.hnd
    have f6 := lt_whole hv2.hpl
    clear hab hv2 hk h1 h2 h3 h4 hv hst ht
    go_wp2_with fail
    refine HAB.out.mono ?_
    rintro e w3 ⟨rfl, nq, rfl⟩
    have HEND := Lib.hid (show Kept [] w (w2.drewN nq) from HK.out.drewN nq)
    have c0' : (w2.drewN nq).cell? ⟨tc, 0, none⟩ = some (.pointer (some ⟨tr, 0, none⟩)) := by rw [World.cell?_drewN]; exact c0
    have cl' : tc < (w2.drewN nq).heap.size := cl
    go_wp2
    go_ret
    exact ⟨rfl, HEND.out⟩
end Go.Proofs.YtikfphojehgpjaaGreatDoor
