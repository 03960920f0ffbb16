/- store: Checkpoint. -/
import Derived.Test.YtikfphojehgpjaaGreatDoorM21
set_option linter.unusedSimpArgs false
set_option linter.unusedVariables false
namespace Go.Proofs.YtikfphojehgpjaaGreatDoor
open Go.RowKit Vl Go.Maps Go.ChangeMaps
set_option linter.unusedVariables false

theorem homed_low (f : Nat → List UInt8) (home : Nat) (r : Nat → List UInt8) (ks : List Nat) (j : Nat) (hj : j < home) : homed f home r ks j = f j := by
  unfold homed
  induction ks generalizing f with
  | nil => rfl
  | cons a l ih => rw [List.foldl_cons, ih, upd_other _ _ (by omega)]
structure CkIn (d du mp base : Nat) (D : Dk) (s g : Nat) (Y : Lay) (ov n : Nat) (op : Bool) (mm : Nat → Option (List UInt8)) (r : Nat → List UInt8) (ks : List Nat) (L : Lg) (w : World) : Prop where
  disk : DiskAt w d du mp base D
  store : StoreAt w s d g Y D.life ov op
  own : OwnMap w base ov n mm
  log : LogAt w g d L
  hn : n ≤ 1000
  sorted : ks.Pairwise (· < ·)
  mem : ∀ x, x ∈ ks ↔ (mm x).isSome = true
  ne : ks ≠ []
  len : ks.length ≤ 16
  fit : ∀ b ∈ ks, Y.home + b < D.S
  row : ∀ b ∈ ks, mm b = some (r b)
  life : L.life = D.life
  started : L.started = true
  head : L.tail ≠ L.head
  first : L.first + 1 < Y.home ∧ L.first + 1 < D.S
  left : Bodied (D.now L.first)
  right : Bodied (D.now (L.first + 1))
  epB : 1 ≤ L.epoch ∧ L.epoch ≤ 1000000000
  newL : anchorN (D.now L.first) < L.epoch * 4294967296 + L.head
  newR : anchorN (D.now (L.first + 1)) < L.epoch * 4294967296 + L.head
  low : s < base ∧ g < base ∧ ov < base
  nd : d ≠ s ∧ d ≠ g ∧ d ≠ ov
  ndu : du ≠ s ∧ du ≠ g ∧ du ≠ ov
  nmp : mp ≠ s ∧ mp ≠ g ∧ mp ≠ ov
  ns : s ≠ g ∧ s ≠ ov ∧ g ≠ ov
def CkPost (d du mp base : Nat) (D : Dk) (g ov : Nat) (Y : Lay) (r : Nat → List UInt8) (ks : List Nat) (L : Lg) (w : World) (e : Ending) (w' : World) : Prop :=
  (e = .returned (.int .i64 3) ∧ DeadW d du mp D w w') ∨
  (e = .returned (.int .i64 0) ∧ ∃ D', DiskAt w' d du mp base D' ∧ Sim D D' ∧ Flushed D' (anchNow (homed D.now Y.home r ks) L.first (L.epoch * 4294967296 + L.head)) ∧ Kept [d, du, mp, g, ov] w w')
/-- The disk, step by step. -/
structure CkAt (d du mp base : Nat) (D : Dk) (g : Nat) (Y : Lay) (r : Nat → List UInt8) (ks : List Nat) (L : Lg) (k : Nat) (w1 wr : World) (E : Dk) : Prop where
  disk : DiskAt wr d du mp base E
  sim : Sim D E
  now : E.now = (if k ≤ 1 then D.now else if k = 2 then homed D.now Y.home r ks else anchNow (homed D.now Y.home r ks) L.first (L.epoch * 4294967296 + L.head))
  p1 : k = 1 → (∀ i, E.pend i = none) ∧ E.np = 0
  p3 : k = 3 → Flushed E (anchNow (homed D.now Y.home r ks) L.first (L.epoch * 4294967296 + L.head))
  log : k ≤ 2 → LogAt wr g d L
  kept : Kept [d, du, mp, g] w1 wr
  keptA : k ≤ 2 → Kept [d, du, mp] w1 wr
def CkStep (d du mp base : Nat) (D : Dk) (g : Nat) (Y : Lay) (r : Nat → List UInt8) (ks : List Nat) (L : Lg) (k : Nat) (w1 wr : World) (e : Ending) (w' : World) : Prop :=
  (e = .returned (.int .i64 3) ∧ DeadW d du mp D w1 w') ∨ (e = .returned (.int .i64 0) ∧ ∃ E, CkAt d du mp base D g Y r ks L (k + 1) w1 w' E)
section
variable {d du mp base : Nat} {D : Dk} {s g : Nat} {Y : Lay} {ov n : Nat} {op : Bool} {mm : Nat → Option (List UInt8)} {r : Nat → List UInt8} {ks : List Nat} {L : Lg} {w w1 wr : World} {E : Dk}
theorem CkAt.dead {w' : World} {k : Nat} (c : CkAt d du mp base D g Y r ks L k w1 wr E) (hk : k ≤ 2) (hd : DeadW d du mp E wr w') : DeadW d du mp D w1 w' := hd.from c.sim.S (Nat.le_of_eq c.sim.life.symm) (c.keptA hk) (fun x hx => .inl hx)
theorem ck_sync (h : CkIn d du mp base D s g Y ov n op mm r ks L w1) (c : CkAt d du mp base D g Y r ks L 0 w1 wr E) : Calls Tryz.prog 67 #[.pointer (some ⟨g, 0, none⟩)] wr (CkStep d du mp base D g Y r ks L 0 w1 wr) := by
  refine (sync_walk wr c.disk (c.log (by omega)) (by rw [h.life, c.sim.life]) h.started).mono ?_
  rintro e w' (⟨hb, rfl, hk⟩ | ⟨hb, rfl, hd, hk⟩)
  · exact .inl ⟨rfl, c.dead (by omega) (DeadW.now (c.disk.kept0 hk) hb rfl (Nat.le_refl _) hk (by simp))⟩
  · refine .inr ⟨rfl, _, hd, c.sim.trans (Sim.flush _), ?_, fun _ => ⟨fun _ => rfl, rfl⟩, fun e => by omega, fun _ => (c.log (by omega)).kept hk (by simp; exact ⟨h.nd.2.1.symm, h.ndu.2.1.symm, h.nmp.2.1.symm⟩), c.kept.trans hk (by simp), fun _ => (c.keptA (by omega)).trans hk (by simp)⟩
    rw [(Flushed.flush E).now, c.now]; rfl
theorem ck_home (h : CkIn d du mp base D s g Y ov n op mm r ks L w1) (c : CkAt d du mp base D g Y r ks L 1 w1 wr E) : Calls Tryz.prog 46 #[.pointer (some ⟨s, 0, none⟩)] wr (CkStep d du mp base D g Y r ks L 1 w1 wr) := by
  have hk1 := c.keptA (by omega)
  have hdl := h.disk.low
  refine (home2_walk d du mp base E s g Y D.life ov n op mm r ks wr
    { disk := c.disk, store := h.store.kept hk1 (by simp; exact ⟨h.nd.1.symm, h.ndu.1.symm, h.nmp.1.symm⟩), own := h.own.kept hk1 (by simp; exact ⟨h.nd.2.2.symm, h.ndu.2.2.symm, h.nmp.2.2.symm⟩) (by simp; exact hdl), hn := h.hn, sorted := h.sorted, mem := h.mem, ne := h.ne, len := h.len,
      fit := fun b hb => by rw [c.sim.S]; exact h.fit b hb, row := h.row, pend := fun b _ => (c.p1 rfl).1 _, np := by rw [(c.p1 rfl).2]; omega, sd := ⟨h.nd.1.symm, h.nmp.1.symm⟩, od := ⟨h.nd.2.2.symm, h.nmp.2.2.symm⟩, sb := h.low.1 }).mono ?_
  rintro e w' (⟨rfl, hd⟩ | ⟨rfl, D', hd, hs, hn, hp, hnp, hk⟩)
  · exact .inl ⟨rfl, c.dead (by omega) hd⟩
  · refine .inr ⟨rfl, D', hd, c.sim.trans hs, ?_, fun e => by omega, fun e => by omega, fun _ => (c.log (by omega)).kept hk (by simp; exact ⟨h.nd.2.1.symm, h.nmp.2.1.symm⟩), c.kept.trans hk (by simp), fun _ => hk1.trans hk (by simp)⟩
    rw [hn, c.now]; rfl
theorem ck_trim (h : CkIn d du mp base D s g Y ov n op mm r ks L w1) (c : CkAt d du mp base D g Y r ks L 2 w1 wr E) : Calls Tryz.prog 68 #[.pointer (some ⟨g, 0, none⟩)] wr (CkStep d du mp base D g Y r ks L 2 w1 wr) := by
  have hnow : E.now = homed D.now Y.home r ks := c.now
  have hfn : E.flush.now = homed D.now Y.home r ks := by rw [(Flushed.flush E).now, hnow]
  have h1 := homed_low D.now Y.home r ks L.first (by have := h.first; omega)
  have h2 := homed_low D.now Y.home r ks (L.first + 1) h.first.1
  refine (trim_walk wr c.disk (c.log (by omega)) (by rw [h.life, c.sim.life]) h.started h.head ⟨h.nd.2.1.symm, h.ndu.2.1.symm, h.nmp.2.1.symm, h.low.2.1⟩ (fun w' hd hl =>
    { disk := hd, log := hl, gd := ⟨h.nd.2.1.symm, h.ndu.2.1.symm, h.nmp.2.1.symm, h.low.2.1⟩, first := by show L.first + 1 < E.S; rw [c.sim.S]; exact h.first.2, left := by rw [hfn, h1]; exact h.left, right := by rw [hfn, h2]; exact h.right,
      epB := h.epB, tlB := (c.log (by omega)).head, newL := by rw [hfn, h1]; exact h.newL, newR := by rw [hfn, h2]; exact h.newR, pend := ⟨rfl, rfl⟩, np := by show 0 < 59000; omega })).mono ?_
  rintro e w' (⟨rfl, hd⟩ | ⟨rfl, D', hd, hs, hf, hl, hk⟩)
  · exact .inl ⟨rfl, c.dead (by omega) hd.weak⟩
  · rw [hnow] at hf
    exact .inr ⟨rfl, D', hd, c.sim.trans hs, by rw [hf.now]; rfl, fun e => by omega, fun _ => hf, fun e => by omega, c.kept.trans hk (by simp), fun e => by omega⟩
theorem CkIn.still (h : CkIn d du mp base D s g Y ov n op mm r ks L w) (hk : Kept [] w w1) : CkIn d du mp base D s g Y ov n op mm r ks L w1 :=
  { h with disk := h.disk.kept0 hk, store := h.store.kept hk (by simp), own := h.own.kept hk (by simp) (by simp), log := h.log.kept hk (by simp) }
set_option maxRecDepth 100000 in
set_option maxHeartbeats 4000000 in
theorem checkpoint_walk (h : CkIn d du mp base D s g Y ov n op mm r ks L w) : Calls Tryz.prog 25 #[.pointer (some ⟨s, 0, none⟩)] w (CkPost d du mp base D g ov Y r ks L w) := by
  have H := Lib.hid h
  have HG := Lib.hid (gone_walk w h.disk h.store)
  have hmf : ∀ (fn : Fn) (first cap : Array Value) (w : World), (Instr.makeFunc fn first cap).run Tryz.prog w = .ok (.func fn first cap) w := fun _ _ _ _ => rfl
  have hl := h.low
  have hbs := h.disk.base_le
  clear h
  cases hb : D.burnt with
  | true =>
    rw [hb] at HG
    go_enter Tryz.func25, Tryz.ntmps25
    go_wp2_with fail
    refine HG.out.mono ?_
    rintro e w1 ⟨rfl, k, rfl⟩
    go_wp2
    go_ret
    exact .inl ⟨rfl, DeadW.now (H.out.disk.kept0 ((Kept.refl [] w).drewN k)) hb rfl (Nat.le_refl _) ((Kept.refl [] w).drewN k) (by simp)⟩
  | false =>
    rw [hb] at HG
    go_enter Tryz.func25, Tryz.ntmps25
    go_wp2_with fail
    refine HG.out.mono ?_
    rintro e w1 ⟨rfl, k, hw1⟩
    have hk1 : Kept [] w w1 := by rw [hw1]; exact (Kept.refl [] w).drewN k
    have hs1 := H.out.store.kept hk1 (by simp)
    obtain ⟨_, s1, _⟩ := hs1.cells
    have sl : s < w1.heap.size := lt_whole hs1
    have HK1 := Lib.hid hk1
    clear hw1 hk1 hs1
    go_upto_region 3 with fail
    refine wp_canon (by kernel_rfl) (by kernel_rfl) ?_
    go_wp2
    refine ⟨rfl, ?_⟩
    have hf2 := heap_alloc_new w1 (.cells #[.func (.func 67) #[.pointer (some ⟨g, 0, none⟩)] #[], .func (.func 46) #[.pointer (some ⟨s, 0, none⟩)] #[], .func (.func 68) #[.pointer (some ⟨g, 0, none⟩)] #[]] 65)
    have hk2 := (HK1.out.alloc (.cells #[.func (.func 67) #[.pointer (some ⟨g, 0, none⟩)] #[], .func (.func 46) #[.pointer (some ⟨s, 0, none⟩)] #[], .func (.func 68) #[.pointer (some ⟨g, 0, none⟩)] #[]] 65)).drew
    have hfa := HK1.out.size
    have hf2' : ((w1.alloc (.cells #[.func (.func 67) #[.pointer (some ⟨g, 0, none⟩)] #[], .func (.func 46) #[.pointer (some ⟨s, 0, none⟩)] #[], .func (.func 68) #[.pointer (some ⟨g, 0, none⟩)] #[]] 65)).drew).heap[w1.heap.size]? = _ := hf2
    generalize (w1.alloc (.cells #[.func (.func 67) #[.pointer (some ⟨g, 0, none⟩)] #[], .func (.func 46) #[.pointer (some ⟨s, 0, none⟩)] #[], .func (.func 68) #[.pointer (some ⟨g, 0, none⟩)] #[]] 65)).drew = w2 at *
    generalize w1.heap.size = fa at *
    have HF2 := Lib.hid hf2'
    have HK2 := Lib.hid hk2
    have H2 := Lib.hid (H.out.still hk2)
    clear hf2 hf2' hk2 s1 sl
    go_wp2_with fail
    go_loopw [4, 5, 22] (fun _ _ v22 wr => ∃ (k : Nat) (E : Dk), k ≤ 3 ∧ v22 = .int .i64 k ∧ CkAt d du mp base D g Y r ks L k w2 wr E) (fun _ _ v22 _ => 3 - (intOf v22).toNat)
    case atStart => exact ⟨0, D, by omega, rfl, ⟨H2.out.disk, Sim.refl _, rfl, fun e => by omega, fun e => by omega, fun _ => H2.out.log, Kept.refl _ _, fun _ => Kept.refl _ _⟩⟩
    case round =>
      obtain ⟨k, E, hk, rfl, hc⟩ := hrel
      have HC := Lib.hid hc
      have hdl := H2.out.disk.low
      have hfr := hc.kept.keep HF2.out (by simp; omega)
      have hfl := lt_whole hfr
      clear hc
      by_cases h3 : k = 3
      · subst h3
        have hst := H2.out.store.kept HC.out.kept (by simp; exact ⟨H2.out.nd.1.symm, H2.out.ndu.1.symm, H2.out.nmp.1.symm, H2.out.ns.1⟩)
        obtain ⟨_, _, _, _, _, _, _, _, s8, _⟩ := hst.cells
        have sl : s < wr.heap.size := lt_whole hst
        obtain ⟨mv, hpm, _⟩ := H2.out.own
        have hpm2 := hpm.keep (HC.out.kept.block _ hpm.lt (by simp; exact ⟨H2.out.nd.2.2.symm, H2.out.ndu.2.2.symm, H2.out.nmp.2.2.symm, H2.out.ns.2.2.symm⟩))
        obtain ⟨w9, hcl, hp9, hg9, _⟩ := hpm2.clear sl117 0
        have hk9 : Kept [ov] wr w9 := (Kept.refl [ov] wr).grown hg9 (fun k e => by injection e with e; subst e; exact .inl (by simp))
        have HEND := Lib.hid (show CkPost d du mp base D g ov Y r ks L w (.returned (.int .i64 0)) w9 from .inr ⟨rfl, E, HC.out.disk.kept hk9 (by simp; exact H2.out.nd.2.2) (by simp; exact H2.out.ndu.2.2) (by simp; exact H2.out.nmp.2.2) (by simp; exact H2.out.low.2.2), HC.out.sim, HC.out.p3 rfl,
          ((HK2.out.mono (G := [d, du, mp, g, ov]) (by simp)).trans HC.out.kept (by simp)).trans hk9 (by simp)⟩)
        clear hst hpm hpm2 hp9 hg9 hk9 hfr
        go_wp2
        go_ret
        exact HEND.out
      · obtain rfl | rfl | rfl : k = 0 ∨ k = 1 ∨ k = 2 := by omega
        have cf := cell_whole hfr 0
        have HCL := Lib.hid (ck_sync H2.out HC.out)
        rotate_left
        have cf := cell_whole hfr 1
        have HCL := Lib.hid (ck_home H2.out HC.out)
        rotate_left
        have cf := cell_whole hfr 2
        have HCL := Lib.hid (ck_trim H2.out HC.out)
        rotate_left
        all_goals
          simp only [List.getElem?_toArray, List.getElem?_cons_zero, List.getElem?_cons_succ] at cf
          clear hfr h3 hk
          go_wp2_with fail
          refine HCL.out.mono ?_
          rintro e w' (⟨rfl, hdead⟩ | ⟨rfl, E', hc'⟩)
          · have HEND := Lib.hid (show CkPost d du mp base D g ov Y r ks L w (.returned (.int .i64 3)) w' from .inl ⟨rfl, hdead.from rfl (Nat.le_refl _) HK2.out (by simp)⟩)
            clear hdead
            go_wp2
            go_ret
            exact HEND.out
          · have HC' := Lib.hid hc'
            clear hc'
            go_wp2
            go_roundw
            case rel =>
              refine ⟨_, E', ?_, ?_, HC'.out⟩
              · omega
              · rfl
            case measure => simp [intOf]
end
end Go.Proofs.YtikfphojehgpjaaGreatDoor
/- fs: view: all layers over a transaction. -/
namespace Go.Proofs.YtikfphojehgpjaaGreatDoor
open Go.RowKit Vl Go.Maps Go.ChangeMaps
set_option linter.unusedVariables false

/-- The layers: each a struct that holds a pointer to the next. -/
structure ViewAt (w : World) (t pl nd sp fl dr wk : Nat) : Prop where
  hpl : w.heap[pl]? = some (.cells #[.pointer (some ⟨t, 0, none⟩)] 129 (0, 0))
  hnd : w.heap[nd]? = some (.cells #[.pointer (some ⟨pl, 0, none⟩)] 90 (0, 0))
  hsp : w.heap[sp]? = some (.cells #[.pointer (some ⟨nd, 0, none⟩)] 87 (0, 0))
  hfl : w.heap[fl]? = some (.cells #[.pointer (some ⟨sp, 0, none⟩)] 84 (0, 0))
  hdr : w.heap[dr]? = some (.cells #[.pointer (some ⟨fl, 0, none⟩)] 81 (0, 0))
  hwk : w.heap[wk]? = some (.cells #[.pointer (some ⟨dr, 0, none⟩)] 78 (0, 0))
theorem ViewAt.kept {w w' : World} {t pl nd sp fl dr wk : Nat} {F : List Nat} (h : ViewAt w t pl nd sp fl dr wk) (hk : Kept F w w') (h1 : pl ∉ F) (h2 : nd ∉ F) (h3 : sp ∉ F) (h4 : fl ∉ F) (h5 : dr ∉ F) (h6 : wk ∉ F) : ViewAt w' t pl nd sp fl dr wk :=
  ⟨hk.keep h.hpl h1, hk.keep h.hnd h2, hk.keep h.hsp h3, hk.keep h.hfl h4, hk.keep h.hdr h5, hk.keep h.hwk h6⟩
theorem On1_walk (w : World) (t : Nat) : Calls Tryz.prog 161 #[.pointer (some ⟨t, 0, none⟩)] w fun e w' => e = .returned (.pointer (some ⟨w.heap.size, 0, none⟩)) ∧ w' = w.alloc (.cells #[.pointer (some ⟨t, 0, none⟩)] 129) := by
  go_enter Tryz.func161, Tryz.ntmps161
  go_wp2
  go_ret
  exact ⟨rfl, rfl⟩
theorem On2_walk (w : World) (t : Nat) : Calls Tryz.prog 160 #[.pointer (some ⟨t, 0, none⟩)] w fun e w' => e = .returned (.pointer (some ⟨w.heap.size, 0, none⟩)) ∧ w' = w.alloc (.cells #[.pointer (some ⟨t, 0, none⟩)] 90) := by
  go_enter Tryz.func160, Tryz.ntmps160
  go_wp2
  go_ret
  exact ⟨rfl, rfl⟩
theorem On3_walk (w : World) (t : Nat) : Calls Tryz.prog 159 #[.pointer (some ⟨t, 0, none⟩)] w fun e w' => e = .returned (.pointer (some ⟨w.heap.size, 0, none⟩)) ∧ w' = w.alloc (.cells #[.pointer (some ⟨t, 0, none⟩)] 87) := by
  go_enter Tryz.func159, Tryz.ntmps159
  go_wp2
  go_ret
  exact ⟨rfl, rfl⟩
theorem On4_walk (w : World) (t : Nat) : Calls Tryz.prog 158 #[.pointer (some ⟨t, 0, none⟩)] w fun e w' => e = .returned (.pointer (some ⟨w.heap.size, 0, none⟩)) ∧ w' = w.alloc (.cells #[.pointer (some ⟨t, 0, none⟩)] 84) := by
  go_enter Tryz.func158, Tryz.ntmps158
  go_wp2
  go_ret
  exact ⟨rfl, rfl⟩
theorem On5_walk (w : World) (t : Nat) : Calls Tryz.prog 157 #[.pointer (some ⟨t, 0, none⟩)] w fun e w' => e = .returned (.pointer (some ⟨w.heap.size, 0, none⟩)) ∧ w' = w.alloc (.cells #[.pointer (some ⟨t, 0, none⟩)] 81) := by
  go_enter Tryz.func157, Tryz.ntmps157
  go_wp2
  go_ret
  exact ⟨rfl, rfl⟩
theorem On6_walk (w : World) (t : Nat) : Calls Tryz.prog 156 #[.pointer (some ⟨t, 0, none⟩)] w fun e w' => e = .returned (.pointer (some ⟨w.heap.size, 0, none⟩)) ∧ w' = w.alloc (.cells #[.pointer (some ⟨t, 0, none⟩)] 78) := by
  go_enter Tryz.func156, Tryz.ntmps156
  go_wp2
  go_ret
  exact ⟨rfl, rfl⟩
theorem view_walk (w : World) (t : Nat) : Calls Tryz.prog 106 #[.pointer (some ⟨t, 0, none⟩)] w fun e w' =>
    e = .returned (.pointer (some ⟨w.heap.size + 5, 0, none⟩)) ∧ ViewAt w' t w.heap.size (w.heap.size + 1) (w.heap.size + 2) (w.heap.size + 3) (w.heap.size + 4) (w.heap.size + 5) ∧ Kept [] w w' := by
  go_enter Tryz.func106, Tryz.ntmps106
  go_wp2_with fail
  refine (On1_walk w t).mono ?_
  rintro e w1 ⟨rfl, h1⟩
  have s1 : w1.heap.size = w.heap.size + 1 := by rw [h1, size_alloc]
  have hn1 : w1.heap[w.heap.size]? = _ := h1 ▸ heap_alloc_new w _
  have k1 : Kept [] w w1 := h1 ▸ (Kept.refl [] w).alloc _
  clear h1
  go_wp2_with fail
  refine (On2_walk w1 _).mono ?_
  rintro e w2 ⟨rfl, h2⟩
  have s2 : w2.heap.size = w.heap.size + 2 := by rw [h2, size_alloc, s1]
  have hn2 : w2.heap[w1.heap.size]? = _ := h2 ▸ heap_alloc_new w1 _
  have k2 : Kept [] w1 w2 := h2 ▸ (Kept.refl [] w1).alloc _
  rw [s1] at hn2
  clear h2
  go_wp2_with fail
  refine (On3_walk w2 _).mono ?_
  rintro e w3 ⟨rfl, h3⟩
  have s3 : w3.heap.size = w.heap.size + 3 := by rw [h3, size_alloc, s2]
  have hn3 : w3.heap[w2.heap.size]? = _ := h3 ▸ heap_alloc_new w2 _
  have k3 : Kept [] w2 w3 := h3 ▸ (Kept.refl [] w2).alloc _
  rw [s2] at hn3
  clear h3
  go_wp2_with fail
  refine (On4_walk w3 _).mono ?_
  rintro e w4 ⟨rfl, h4⟩
  have s4 : w4.heap.size = w.heap.size + 4 := by rw [h4, size_alloc, s3]
  have hn4 : w4.heap[w3.heap.size]? = _ := h4 ▸ heap_alloc_new w3 _
  have k4 : Kept [] w3 w4 := h4 ▸ (Kept.refl [] w3).alloc _
  rw [s3] at hn4
  clear h4
  go_wp2_with fail
  refine (On5_walk w4 _).mono ?_
  rintro e w5 ⟨rfl, h5⟩
  have s5 : w5.heap.size = w.heap.size + 5 := by rw [h5, size_alloc, s4]
  have hn5 : w5.heap[w4.heap.size]? = _ := h5 ▸ heap_alloc_new w4 _
  have k5 : Kept [] w4 w5 := h5 ▸ (Kept.refl [] w4).alloc _
  rw [s4] at hn5
  clear h5
  go_wp2_with fail
  refine (On6_walk w5 _).mono ?_
  rintro e w6 ⟨rfl, h6⟩
  have hn6 : w6.heap[w5.heap.size]? = _ := h6 ▸ heap_alloc_new w5 _
  have k6 : Kept [] w5 w6 := h6 ▸ (Kept.refl [] w5).alloc _
  rw [s5] at hn6
  have HEND := Lib.hid (show ViewAt w6 t w.heap.size (w.heap.size + 1) (w.heap.size + 2) (w.heap.size + 3) (w.heap.size + 4) (w.heap.size + 5) ∧ Kept [] w w6 from by
    have k16 := (((k2.trans k3 (by simp)).trans k4 (by simp)).trans k5 (by simp)).trans k6 (by simp)
    have k26 := ((k3.trans k4 (by simp)).trans k5 (by simp)).trans k6 (by simp)
    have k36 := (k4.trans k5 (by simp)).trans k6 (by simp)
    have k46 := k5.trans k6 (by simp)
    exact ⟨⟨k16.keep hn1 (by simp), k26.keep hn2 (by simp), k36.keep hn3 (by simp), k46.keep hn4 (by simp), k6.keep hn5 (by simp), hn6⟩, k1.trans k16 (by simp)⟩)
  clear h6 hn1 hn2 hn3 hn4 hn5 hn6 k1 k2 k3 k4 k5 k6
  go_wp2
  go_ret
  exact ⟨rfl, HEND.out⟩
end Go.Proofs.YtikfphojehgpjaaGreatDoor
/- pool: the deferred functions, where nothing is thrown; demand. -/
namespace Go.Proofs.YtikfphojehgpjaaGreatDoor
open Go.RowKit Vl Go.Maps Go.ChangeMaps
set_option linter.unusedVariables false

theorem pcaught_idle (p : Value) (w : World) : Calls Tryz.prog 53 #[.nilIface, p] w fun e w' => e = .returned (.tuple #[]) ∧ w' = w := by
  go_enter Tryz.func53, Tryz.ntmps53
  go_wp2
  go_end0
  exact ⟨rfl, rfl⟩
theorem pdemand_ok (w : World) : Calls Tryz.prog 54 #[.int .i64 0] w fun e w' => e = .returned (.tuple #[]) ∧ w' = w := by
  go_enter Tryz.func54, Tryz.ntmps54
  go_wp2
  go_end0
  exact ⟨rfl, rfl⟩
set_option maxRecDepth 100000 in
set_option maxHeartbeats 1000000 in
theorem catchP_idle (r : Nat) (w : World) :
    CallsD Tryz.prog 52 #[.pointer (some ⟨r, 0, none⟩)] .returning w fun e u' w' => e = .returned (.tuple #[]) ∧ u' = .returning ∧ w' = w := by
  have HP := pcaught_idle (.pointer (some ⟨r, 0, none⟩)) w
  refine callsD_of_wpS Tryz.func52 rfl fun c₀ cs hu => ?_
  apply wpS_region
  simp [wpOpsS, go_sem, recoverD, hu, Tryz.ntmps52]
  refine HP.mono ?_
  rintro e w' ⟨rfl, rfl⟩
  cases c₀
  simp_all [bodyPostS, results, Tryz.results52]
set_option maxRecDepth 100000 in
set_option maxHeartbeats 1000000 in
theorem catchT_idle (r : Nat) (w : World) :
    CallsD Tryz.prog 111 #[.pointer (some ⟨r, 0, none⟩)] .returning w fun e u' w' => e = .returned (.tuple #[]) ∧ u' = .returning ∧ w' = w := by
  have HP := pcaught_idle (.pointer (some ⟨r, 0, none⟩)) w
  refine callsD_of_wpS Tryz.func111 rfl fun c₀ cs hu => ?_
  apply wpS_region
  simp [wpOpsS, go_sem, recoverD, hu, Tryz.ntmps111]
  refine HP.mono ?_
  rintro e w' ⟨rfl, rfl⟩
  cases c₀
  simp_all [bodyPostS, results, Tryz.results111]
theorem res22 (tmps : Array Value) (w : World) (b : Nat) (v : Value) (h0 : tmps.getD 2 undef = .pointer (some ⟨b, 0, none⟩)) (c0 : w.cell? ⟨b, 0, none⟩ = some v) : (results Tryz.f22 tmps).run Tryz.prog w = .ok v w := by
  have h0' : tmps[2]?.getD undef = .pointer (some ⟨b, 0, none⟩) := by simpa using h0
  simp [results, Tryz.results22, h0', asAddr, loadVar, c0, go_sem]
theorem doorP_idle {tmps : Array Value} {R : Ending → World → Prop} {w : World} {b : Nat} {v : Value} (t0 : tmps.getD 2 undef = .pointer (some ⟨b, 0, none⟩)) (h0 : w.heap[b]? = some (.cells #[v] 24 (0, 0))) (hR : R (.returned v) w) :
    Leaves Tryz.prog Tryz.f22 tmps R [{ target := .fn (.func 52) #[.pointer (some ⟨b, 0, none⟩)], args := #[] }] .returning w := by
  refine leaves_cons (f := 52) (args := #[.pointer (some ⟨b, 0, none⟩)]) (by simp) (by simp [go_sem]) ?_
  refine (catchP_idle b w).mono ?_
  rintro e u' w'' ⟨rfl, rfl, rfl⟩
  exact ⟨_, res22 tmps w'' b _ t0 (cell_whole h0 0), hR⟩
theorem res61 (tmps : Array Value) (w : World) (b : Nat) (v : Value) (h0 : tmps.getD 3 undef = .pointer (some ⟨b, 0, none⟩)) (c0 : w.cell? ⟨b, 0, none⟩ = some v) : (results Tryz.f61 tmps).run Tryz.prog w = .ok (.tuple #[tmps.getD 2 undef, v]) w := by
  have h0' : tmps[3]?.getD undef = .pointer (some ⟨b, 0, none⟩) := by simpa using h0
  simp [results, Tryz.results61, h0', asAddr, loadVar, c0, go_sem]
theorem doorT_idle {tmps : Array Value} {R : Ending → World → Prop} {w : World} {b : Nat} {v : Value} (t0 : tmps.getD 3 undef = .pointer (some ⟨b, 0, none⟩)) (h0 : w.heap[b]? = some (.cells #[v] 24 (0, 0))) (hR : R (.returned (.tuple #[tmps.getD 2 undef, v])) w) :
    Leaves Tryz.prog Tryz.f61 tmps R [{ target := .fn (.func 111) #[.pointer (some ⟨b, 0, none⟩)], args := #[] }] .returning w := by
  refine leaves_cons (f := 111) (args := #[.pointer (some ⟨b, 0, none⟩)]) (by simp) (by simp [go_sem]) ?_
  refine (catchT_idle b w).mono ?_
  rintro e u' w'' ⟨rfl, rfl, rfl⟩
  exact ⟨_, res61 tmps w'' b _ t0 (cell_whole h0 0), hR⟩
end Go.Proofs.YtikfphojehgpjaaGreatDoor
/- Bits of a byte. -/
namespace Go.Proofs.YtikfphojehgpjaaGreatDoor
open Go.RowKit Vl
set_option linter.unusedVariables false

theorem wrap_u8 {n : Nat} (h : n < 256) : IntKind.wrap .u8 (n : Int) = (n : Int) := by
  show (if (false && decide ((n : Int) % (2 ^ 8 : Int) ≥ (2 ^ 7 : Int))) = true then (n : Int) % (2 ^ 8 : Int) - (2 ^ 8 : Int) else (n : Int) % (2 ^ 8 : Int)) = n
  have e : (n : Int) % (2 ^ 8 : Int) = n := by omega
  rw [e]; rfl
theorem or_u8 {a b : Nat} (ha : a < 256) (hb : b < 256) : bits .or .u8 (a : Int) (b : Int) = ((a ||| b : Nat) : Int) := by
  have h : a ||| b < 256 := Nat.or_lt_two_pow (n := 8) ha hb
  show IntKind.wrap .u8 (((BitVec.ofInt 8 (a : Int) ||| BitVec.ofInt 8 (b : Int)).toNat : Nat) : Int) = _
  have e : (BitVec.ofInt 8 (a : Int) ||| BitVec.ofInt 8 (b : Int)).toNat = a ||| b := by
    rw [BitVec.toNat_or, BitVec.ofInt_natCast, BitVec.ofInt_natCast, BitVec.toNat_ofNat, BitVec.toNat_ofNat, Nat.mod_eq_of_lt (by omega), Nat.mod_eq_of_lt (by omega)]
  rw [e, wrap_u8 h]
theorem xor_u8 {a b : Nat} (ha : a < 256) (hb : b < 256) : bits .xor .u8 (a : Int) (b : Int) = ((a ^^^ b : Nat) : Int) := by
  have h : a ^^^ b < 256 := Nat.xor_lt_two_pow (n := 8) ha hb
  show IntKind.wrap .u8 (((BitVec.ofInt 8 (a : Int) ^^^ BitVec.ofInt 8 (b : Int)).toNat : Nat) : Int) = _
  have e : (BitVec.ofInt 8 (a : Int) ^^^ BitVec.ofInt 8 (b : Int)).toNat = a ^^^ b := by
    rw [BitVec.toNat_xor, BitVec.ofInt_natCast, BitVec.ofInt_natCast, BitVec.toNat_ofNat, BitVec.toNat_ofNat, Nat.mod_eq_of_lt (by omega), Nat.mod_eq_of_lt (by omega)]
  rw [e, wrap_u8 h]
theorem and_u8 {a b : Nat} (ha : a < 256) (hb : b < 256) : bits .and .u8 (a : Int) (b : Int) = ((a &&& b : Nat) : Int) := by
  have h : a &&& b < 256 := Nat.and_lt_two_pow (n := 8) a hb
  show IntKind.wrap .u8 (((BitVec.ofInt 8 (a : Int) &&& BitVec.ofInt 8 (b : Int)).toNat : Nat) : Int) = _
  have e : (BitVec.ofInt 8 (a : Int) &&& BitVec.ofInt 8 (b : Int)).toNat = a &&& b := by
    rw [BitVec.toNat_and, BitVec.ofInt_natCast, BitVec.ofInt_natCast, BitVec.toNat_ofNat, BitVec.toNat_ofNat, Nat.mod_eq_of_lt (by omega), Nat.mod_eq_of_lt (by omega)]
  rw [e, wrap_u8 h]
theorem pow_u8 {j : Nat} (hj : j < 8) : ((2 : Int) ^ j % 256) = ((2 ^ j : Nat) : Int) ∧ 2 ^ j < 256 := by
  have : ∀ j, j < 8 → ((2 : Int) ^ j % 256) = ((2 ^ j : Nat) : Int) ∧ 2 ^ j < 256 := by decide
  exact this j hj
/-- A bit is set. -/
def orBit (c : UInt8) (j : Nat) : UInt8 := UInt8.ofNat (c.toNat ||| 2 ^ j)
theorem orBit_int (c : UInt8) {j : Nat} (hj : j < 8) : ((orBit c j).toNat : Int) = bits .or .u8 (c.toNat : Int) ((2 : Int) ^ j % 256) := by
  obtain ⟨h1, h2⟩ := pow_u8 hj
  have hc := c.toNat_lt
  rw [h1, or_u8 (by omega) h2]
  unfold orBit
  rw [UInt8.toNat_ofNat', Nat.mod_eq_of_lt (Nat.or_lt_two_pow (n := 8) hc h2)]
/-- A bit is turned. -/
def xorBit (c : UInt8) (j : Nat) : UInt8 := UInt8.ofNat (c.toNat ^^^ 2 ^ j)
theorem xorBit_int (c : UInt8) {j : Nat} (hj : j < 8) : ((xorBit c j).toNat : Int) = bits .xor .u8 (c.toNat : Int) ((2 : Int) ^ j % 256) := by
  obtain ⟨h1, h2⟩ := pow_u8 hj
  have hc := c.toNat_lt
  rw [h1, xor_u8 (by omega) h2]
  unfold xorBit
  rw [UInt8.toNat_ofNat', Nat.mod_eq_of_lt (Nat.xor_lt_two_pow (n := 8) hc h2)]
end Go.Proofs.YtikfphojehgpjaaGreatDoor
/- pool: Clear. -/
namespace Go.Proofs.YtikfphojehgpjaaGreatDoor
open Go.RowKit Vl Go.Maps Go.ChangeMaps
set_option linter.unusedVariables false

/-- The first k bits set. -/
def bmB : Nat → List UInt8
  | 0 => zsec
  | k + 1 => (bmB k).set (k / 8) (orBit ((bmB k).getD (k / 8) 0) (k % 8))
theorem bmB_length (k : Nat) : (bmB k).length = 512 := by
  induction k with
  | zero => exact zsec_length
  | succ k ih => rw [bmB, List.length_set, ih]
theorem field94_4 (Y : Lay) (w : World) : (Instr.field 94 (.agg Y.vals) 4).run Tryz.prog w = .ok (.int .i64 Y.data) w := by kernel_rfl
theorem field94_3 (Y : Lay) (w : World) : (Instr.field 94 (.agg Y.vals) 3).run Tryz.prog w = .ok (.int .i64 Y.nodes) w := by kernel_rfl
section
variable {w w' : World} {X : TxC} {n : Nat} {m : Nat → Option (List UInt8)}
/-- A block of another type turns. -/
theorem TxAt.other (h : TxAt w X n m) (ok : TxOk X) {r t : Nat} {cs : Array Value} {fr : Nat × Nat} (hr : w.heap[r]? = some (.cells cs t fr)) (ht : t ≠ 5) (hk : Kept [r] w w') (hb : X.base ≤ r) : TxAt w' X n m := by
  obtain ⟨⟨x, h1⟩, h2, h3, h4, h5, mv, h6, h7⟩ := h
  have hlow := ok.low
  refine ⟨⟨x, h1.keptN ok.pend hk (by simp; omega) (by simp; omega) (by simp; omega)⟩, h2.kept hk (by simp; omega), h3.kept hk (by simp; omega), h4.keep (hk.block _ h4.lt (by simp; omega)), hk.keep h5 (by simp; omega), mv, h6.keep (hk.block _ h6.lt (by simp; omega)), fun b => ?_⟩
  rcases h7 b with h8 | ⟨l, v, h8, h9, h10, h11⟩
  · exact .inl h8
  · refine .inr ⟨l, v, h8, h9, h10, h11.keep fun k hk' => hk.block k (h11.block hk').2.1 (fun hm => ?_)⟩
    simp at hm
    subst hm
    obtain ⟨cur, hc⟩ := (h11.block hk').2.2
    rw [hr] at hc
    injection hc with hc
    injection hc with _ e _
    exact ht e
def ClearPost (X : TxC) (n : Nat) (m : Nat → Option (List UInt8)) (w : World) (e : Ending) (w' : World) : Prop :=
  e = .returned (.int .i64 0) ∧ TxAt w' X (n + 2) (PutTo X (PutTo X m 0 (bmB X.Y.data)) 1 zsec) ∧ Kept [X.d, X.own] w w'
set_option maxRecDepth 100000 in
set_option maxHeartbeats 2000000 in
theorem clear_walk (ok : TxOk X) (h : TxAt w X n m) (hn : n < 10) (pl : Nat) (hp : w.heap[pl]? = some (.cells #[.pointer (some ⟨X.t, 0, none⟩)] 129 (0, 0))) (hpd : pl ≠ X.d ∧ pl ≠ X.own) (hdt : X.Y.data ≤ 4000) (hb : 2 ≤ X.Y.blocks) :
    Calls Tryz.prog 22 #[.pointer (some ⟨pl, 0, none⟩)] w (ClearPost X n m w) := by
  have hmf : ∀ (fn : Fn) (first cap : Array Value) (w : World), (Instr.makeFunc fn first cap).run Tryz.prog w = .ok (.func fn first cap) w := fun _ _ _ _ => rfl
  have H := Lib.hid h
  have HOK := Lib.hid ok
  have HP := Lib.hid hp
  have hk1 := (Kept.refl [] w).alloc (.cells #[.int .i64 0] 24)
  have hr1 := heap_alloc_new w (.cells #[.int .i64 0] 24)
  have hbase := h.base_le
  have hlow := ok.low
  clear h ok hp
  go_enter_defers Tryz.func22, Tryz.ntmps22
  go_upto_region 2 with fail
  generalize w.alloc (.cells #[.int .i64 0] 24) = w1 at *
  generalize hr : w.heap.size = r at *
  have HR := Lib.hid hr
  have HK1 := Lib.hid hk1
  have HR1 := Lib.hid hr1
  have hp1 := hk1.keep HP.out (by simp)
  have p0 := cell_whole hp1 0
  have pl1 := lt_whole hp1
  simp only [List.getElem?_toArray, List.getElem?_cons_zero] at p0
  have HST := Lib.hid (state_walk HOK.out (H.out.still hk1))
  clear hr hk1 hr1 hp1
  go_wp2_with fail
  refine HST.out.mono ?_
  rintro e w2 ⟨rfl, hk2⟩
  have HK2 := Lib.hid (HK1.out.trans hk2 (by simp))
  have HR2 := Lib.hid (hk2.keep HR1.out (by simp))
  clear hk2 HST HK1 HR1
  go_wp2_with fail
  refine (pdemand_ok w2).mono ?_
  rintro e w3 ⟨rfl, rfl⟩
  have hms := make_sec w3
  have hk3 := (Kept.refl [] w3).alloc (.cells (bcells zsec).toArray 5)
  have hb3 : Bytes (w3.alloc (.cells (bcells zsec).toArray 5)) w3.heap.size zsec := heap_alloc_new w3 _
  go_upto_region 4 with fail
  generalize w3.alloc (.cells (bcells zsec).toArray 5) = w4 at *
  have hw3 := HK2.out.size
  generalize hq : w3.heap.size = q at *
  have HK4 := Lib.hid (HK2.out.trans hk3 (by simp))
  have HR4 := Lib.hid (hk3.keep HR2.out (by simp))
  have HB4 := Lib.hid hb3
  have hrq : r < q := by have := lt_whole HR2.out; omega
  have hp4 := HK4.out.keep HP.out (by simp)
  have p0 := cell_whole hp4 0
  have pl4 := lt_whole hp4
  simp only [List.getElem?_toArray, List.getElem?_cons_zero] at p0
  have HLY := Lib.hid (tlayout_walk (H.out.still HK4.out))
  clear hms hk3 hb3 HK2 HR2 hp4
  go_wp2_with fail
  refine HLY.out.mono ?_
  rintro e w5 ⟨rfl, hk5⟩
  have HK5 := Lib.hid (HK4.out.trans hk5 (by simp))
  have HR5 := Lib.hid (hk5.keep HR4.out (by simp))
  have HB5 := Lib.hid (HB4.out.kept hk5 (by simp))
  clear hk5 HK4 HR4 HB4 HLY
  have hfd := field94_4 X.Y w5
  go_wp2_with fail
  clear hfd
  generalize hdd : X.Y.data = dd at *
  have HDD := Lib.hid hdd
  clear hdd
  go_loopw [4, 19] (fun _ v19 wr => ∃ k : Nat, k ≤ dd ∧ v19 = .int .i64 k ∧ Bytes wr q (bmB k) ∧ Kept [] w wr ∧ wr.heap[r]? = some (.cells #[.int .i64 0] 24 (0, 0))) (fun _ v19 _ => dd - (intOf v19).toNat)
  case atStart => exact ⟨0, by omega, rfl, HB5.out, HK5.out, HR5.out⟩
  case round =>
    obtain ⟨k, hk, rfl, hB, hkk, hrr⟩ := hrel
    have HB := Lib.hid hB
    have HKK := Lib.hid hkk
    have HRR := Lib.hid hrr
    have hql := lt_whole hB
    have hbl := bmB_length k
    clear hkk hrr
    by_cases hlt : k < dd
    · have h8 : (k : Int).tdiv 8 = ((k / 8 : Nat) : Int) := by rw [Int.tdiv_eq_ediv_of_nonneg (by omega)]; omega
      have h9 : (k : Int).tmod 8 = ((k % 8 : Nat) : Int) := by rw [Int.tmod_eq_emod_of_nonneg (by omega)]; omega
      have hk8 : k / 8 < 512 := by omega
      have hk9 : k % 8 < 8 := Nat.mod_lt _ (by omega)
      have hc := hB.cell (i := k / 8) (by rw [hbl]; exact hk8)
      have hf := hB.frozen (k / 8)
      clear hB
      generalize hx : (bmB k)[k / 8]'(by rw [hbl]; exact hk8) = x at *
      generalize hj : k % 8 = j at *
      generalize hi : k / 8 = i at *
      have hx256 : x.toNat < 256 := x.toNat_lt
      have HOR := Lib.hid (orBit_int x hk9)
      have HBN := Lib.hid (show Bytes (wr.setCell ⟨q, i, none⟩ (.int .u8 (orBit x j).toNat)) q (bmB (k + 1)) from by
        have := HB.out.set i (orBit x j)
        have e : bmB (k + 1) = (bmB k).set i (orBit x j) := by
          rw [bmB, hi, hj]
          congr 2
          subst hi
          rw [List.getD_eq_getElem?_getD, List.getElem?_eq_getElem (by rw [hbl]; exact hk8), hx]; rfl
        rw [e]; exact this)
      have hkw := HKK.out.setCell ⟨q, i, none⟩ (.int .u8 (orBit x j).toNat) (.inr (by rw [HR.out]; show r ≤ q; omega))
      have hrw := set_other (p := ⟨q, i, none⟩) (v := .int .u8 (orBit x j).toNat) HRR.out (by show q ≠ r; omega)
      rw [HOR.out] at HBN hkw hrw
      have HKW := Lib.hid hkw
      have HRW := Lib.hid hrw
      clear hkw hrw hi hj hx
      go_upto_region 7 with fail
      refine wp_canon (by kernel_rfl) (by kernel_rfl) ?_
      go_wp2
      refine ⟨rfl, ?_⟩
      go_wp2
      go_roundw
      case rel => exact ⟨k + 1, by omega, by go_num, HBN.out, HKW.out.drew, HRW.out⟩
      case measure => simp [intOf]; omega
    · obtain rfl : k = dd := by omega
      have hd1 := HKK.out.keep HP.out (by simp)
      have p0 := cell_whole hd1 0
      have pl4 := lt_whole hd1
      simp only [List.getElem?_toArray, List.getElem?_cons_zero] at p0
      have HPT := Lib.hid (tput_walk HOK.out (H.out.still HKK.out) (by omega) 0 (by omega) (bmB k) hbl q 0 512 hB.at (by omega))
      clear hd1 hB hbl
      go_wp2_with fail
      refine HPT.out.mono ?_
      rintro e w6 ⟨rfl, ht6, hk6⟩
      have HK6 := Lib.hid ((HKK.out.mono (G := [X.d, X.own]) (by simp)).trans hk6 (by simp))
      have HR6 := Lib.hid (hk6.keep HRR.out (by simp; omega))
      have HT6 := Lib.hid ht6
      clear hk6 ht6 HPT p0 pl4
      go_wp2_with fail
      refine (pdemand_ok w6).mono ?_
      rintro e w7 ⟨rfl, rfl⟩
      have hp7 := HK6.out.keep HP.out (by simp; exact hpd)
      have p7 : w7.drew.cell? ⟨pl, 0, none⟩ = some (.pointer (some ⟨X.t, 0, none⟩)) := cell_whole hp7 0
      have pl7 := lt_whole hp7
      have hms := make_sec w7.drew
      have hk8 := ((Kept.refl [] w7).alloc (.cells (bcells zsec).toArray 5)).drew
      have hb8 : Bytes (w7.alloc (.cells (bcells zsec).toArray 5)).drew w7.heap.size zsec := heap_alloc_new w7 _
      have hw7 : r ≤ w7.heap.size := by rw [← HR.out]; exact HK6.out.size
      have HPT := Lib.hid (tput_walk HOK.out (HT6.out.still hk8) (by omega) 1 (by omega) zsec zsec_length w7.heap.size 0 512 hb8.at (by omega))
      have HK8 := Lib.hid (HK6.out.trans hk8 (by simp))
      have HR8 := Lib.hid (hk8.keep HR6.out (by simp))
      have p8 : (w7.alloc (.cells (bcells zsec).toArray 5)).drew.cell? ⟨pl, 0, none⟩ = some (.pointer (some ⟨X.t, 0, none⟩)) := cell_whole (hk8.keep hp7 (by simp)) 0
      have HPU : Hid (Calls Tryz.prog 57 #[.pointer (some ⟨X.t, 0, none⟩), .int .i64 1, .slice (some ⟨w7.heap.size, 0, none⟩) 512 512] (w7.alloc (.cells (bcells zsec).toArray 5)).drew fun e w9 => e = .returned (.int .i64 0) ∧ TxAt w9 X (n + 1 + 1) (PutTo X (PutTo X m 0 (bmB k)) 1 zsec) ∧ Kept [X.d, X.own] w w9 ∧ w9.heap[r]? = some (.cells #[.int .i64 0] 24 (0, 0)) ∧ w9.cell? ⟨pl, 0, none⟩ = some (.pointer (some ⟨X.t, 0, none⟩))) := Lib.hid (HPT.out.mono (by
        rintro e w9 ⟨rfl, ht9, hk9⟩
        have hkw := HK8.out.trans hk9 (by simp)
        exact ⟨rfl, ht9, hkw, hk9.keep HR8.out (by simp; omega), cell_whole (hkw.keep HP.out (by simp; exact hpd)) 0⟩))
      clear hk8 hb8 hp7 HPT
      go_wp2_with fail
      go_region_held3 (fun w' => w'.cell? ⟨pl, 0, none⟩ = some (.pointer (some ⟨X.t, 0, none⟩)))
        (first
          | (with_reducible exact p7)
          | (with_reducible exact p8)
          | (with_reducible exact p9))
        ((first
          | (go_simp; go_at_call 57; (with_reducible refine HPU.out.mono ?_); rintro e w9 ⟨rfl, ht9, hk9, hr9, p9⟩)
          | (go_simp; go_at_call 54; (with_reducible refine (pdemand_ok w9).mono ?_); rintro e w10 ⟨rfl, rfl⟩)))
      have HK9 := Lib.hid hk9
      have HR9 := Lib.hid hr9
      have HT9 := Lib.hid ht9
      clear hk9 ht9 hms p7 pl7 hr9 p8 p9
      have r0 := cell_whole HR9.out 0
      have rf := frozen_whole HR9.out 0
      have rl := lt_whole HR9.out
      simp only [List.getElem?_toArray, List.getElem?_cons_zero] at r0
      have HEQ : Hid (w10.setCell ⟨r, 0, none⟩ (.int .i64 0) = w10.setCell ⟨r, 0, none⟩ (.int .i64 0)) := Lib.hid rfl
      have hkz : Kept [r] w10 (w10.setCell ⟨r, 0, none⟩ (.int .i64 0)) := (Kept.refl _ _).setCell _ _ (.inl (by simp))
      have HRZ := Lib.hid (set_whole (i := 0) HR9.out (.int .i64 0))
      have HEND := Lib.hid (show ClearPost X n m w (.returned (.int .i64 0)) (w10.setCell ⟨r, 0, none⟩ (.int .i64 0)) from ⟨rfl, by rw [HDD.out]; exact HT9.out.other HOK.out HR9.out (by omega) hkz (by omega), HK9.out.trans hkz (by simp [HR.out])⟩)
      clear hkz
      go_wp2
      exact doorP_idle rfl HRZ.out HEND.out
end
end Go.Proofs.YtikfphojehgpjaaGreatDoor
