/- store: Format. -/
import Derived.Test.YtikfphojehgpjaaGreatDoorM15
import Derived.Test.YtikfphojehgpjaaGreatDoorM12
import Derived.Deep.QuietTactic
import Derived.BigQuiet
import Derived.Deep.RegionHeld3
set_option linter.unusedSimpArgs false
set_option linter.unusedVariables false
namespace Go.Proofs.YtikfphojehgpjaaGreatDoor
open Go.RowKit Vl Go.Maps Go.ChangeMaps
set_option linter.unusedVariables false

theorem DiskAt.drewN {w : World} {d du mp base : Nat} {D : Dk} (h : DiskAt w d du mp base D) (n : Nat) : DiskAt (w.drewN n) d du mp base D := h.kept0 ((Kept.refl [] w).drewN n)
/-- What lies there, step by step. -/
def F1 (f : Nat → List UInt8) : Nat → List UInt8 := upd f 0 zsec
def F3 (f : Nat → List UInt8) (S : Nat) : Nat → List UInt8 := zrange (F1 f) 1 (S - 1)
def F5 (f : Nat → List UInt8) (S L : Nat) : Nat → List UInt8 := anchNow (zrange (F3 f S) 1 (2 + L)) 1 4294967296
def F7 (f : Nat → List UInt8) (S L N : Nat) : Nat → List UInt8 := upd (F5 f S L) 0 (superB S L N)
def stageF (f : Nat → List UInt8) (S L N : Nat) : Nat → Nat → List UInt8
  | 0 => f
  | 1 => F1 f
  | 2 => F1 f
  | 3 => F3 f S
  | 4 => F3 f S
  | 5 => F5 f S L
  | _ => F7 f S L N
def quiet (k : Nat) : Bool := k == 0 || k == 2 || k == 4 || k == 5 || k == 7
/-- The disk behind k steps. -/
structure Stage (d du mp : Nat) (D : Dk) (L N : Nat) (w : World) (k : Nat) (w' : World) (base : Nat) (E : Dk) : Prop where
  disk : DiskAt w' d du mp base E
  S : E.S = D.S
  rf : E.rf = D.rf
  life : E.life = D.life + (if k < 5 then 1 else 2)
  now : E.now = stageF D.now D.S L N k
  still : quiet k = true → (∀ i, E.pend i = none) ∧ E.np = 0
  pe : k = 7 → E.pe = 0
  kept : Kept [d, du, mp] w w'
/-- One step. -/
def StepPost (d du mp : Nat) (D : Dk) (L N : Nat) (w : World) (k : Nat) (wr : World) (e : Ending) (w' : World) : Prop := Kept [d, du, mp] wr w' ∧
  ((e = .returned (.int .i64 3) ∧ ∃ base E, DiskAt w' d du mp base E ∧ E.burnt = true ∧ E.S = D.S ∧ D.life < E.life) ∨
   (e = .returned (.int .i64 0) ∧ ∃ base E, Stage d du mp D L N w (k + 1) w' base E))
theorem Stage.life_lt {d du mp : Nat} {D : Dk} {L N : Nat} {w w' : World} {k base : Nat} {E : Dk} (h : Stage d du mp D L N w k w' base E) : D.life < E.life := by
  rw [h.life]; split <;> omega
theorem step_write {d du mp : Nat} {D : Dk} {L N : Nat} {w wr : World} {k base : Nat} {E : Dk} (h : Stage d du mp D L N w k wr base E) (hq : quiet k = true) (hq' : quiet (k + 1) = false) (hk : k + 1 < 7) (h5 : k = 5 ∨ k < 4) (l : List UInt8) (g : Nat) (hl : Bytes wr g l) (hll : l.length = 512)
    (hF : upd (stageF D.now D.S L N k) 0 l = stageF D.now D.S L N (k + 1)) : Calls Tryz.prog 32 #[.pointer (some ⟨d, 0, none⟩), .int .i64 0, .slice (some ⟨g, 0, none⟩) 512 512] wr (Val (StepPost d du mp D L N w k wr)) := by
  have hst := h.still hq
  refine (write_walk d du mp base E wr h.disk 0 (by have := h.disk.pos; omega) l (some ⟨g, 0, none⟩) 512 hl.at hll (hst.1 0) (by rw [hst.2]; omega)).mono ?_
  rintro e w' (⟨hb, rfl, hk'⟩ | ⟨_, rfl, hd, hk'⟩)
  · exact ⟨3, rfl, hk'.mono (by simp), .inl ⟨rfl, base, E, h.disk.kept0 hk', hb, h.S, h.life_lt⟩⟩
  · refine ⟨0, rfl, hk'.mono (by simp), .inr ⟨rfl, base, _, hd, h.S, h.rf, ?_, ?_, fun hx => ?_, fun hx => by omega, h.kept.trans hk' (by simp)⟩⟩
    · show E.life = _
      rw [h.life]
      rcases h5 with rfl | h5
      · rfl
      · rw [if_pos (by omega), if_pos (by omega)]
    · rw [now_write, h.now, hF]
    · rw [hq'] at hx; cases hx
theorem step_flush {d du mp : Nat} {D : Dk} {L N : Nat} {w wr : World} {k base : Nat} {E : Dk} (h : Stage d du mp D L N w k wr base E) (h5 : k = 1 ∨ k = 3 ∨ k = 6)
    (hF : stageF D.now D.S L N k = stageF D.now D.S L N (k + 1)) : Calls Tryz.prog 33 #[.pointer (some ⟨d, 0, none⟩)] wr (StepPost d du mp D L N w k wr) := by
  refine (flush_walk d du mp base E wr h.disk).mono ?_
  rintro e w' (⟨hb, rfl, hk'⟩ | ⟨_, rfl, hd, hk'⟩)
  · exact ⟨hk'.mono (by simp), .inl ⟨rfl, base, E, h.disk.kept0 hk', hb, h.S, h.life_lt⟩⟩
  · have hfl := Flushed.flush E
    refine ⟨hk'.mono (by simp), .inr ⟨rfl, base, _, hd, h.S, h.rf, ?_, ?_, fun _ => ⟨hfl.pend, hfl.np⟩, fun _ => hfl.pe, h.kept.trans hk' (by simp)⟩⟩
    · show E.life = _
      rw [h.life]
      rcases h5 with rfl | rfl | rfl <;> rfl
    · rw [hfl.now, h.now, hF]
theorem step_zero {d du mp : Nat} {D : Dk} {L N : Nat} {w wr : World} {base : Nat} {E : Dk} (h : Stage d du mp D L N w 2 wr base E) : Calls Tryz.prog 35 #[.pointer (some ⟨d, 0, none⟩), .int .i64 1] wr (Val (StepPost d du mp D L N w 2 wr)) := by
  have hst := h.still rfl
  refine (zeroed_walk d du mp base E wr h.disk hst.1 hst.2).mono ?_
  rintro e w' (⟨rfl, b', E', h1, h2, h3, h4, h5⟩ | ⟨rfl, E', h1, h2, h3, h5⟩)
  · exact ⟨3, rfl, h5, .inl ⟨rfl, b', E', h1, h2, h3.trans h.S, Nat.lt_of_lt_of_le h.life_lt h4⟩⟩
  · refine ⟨0, rfl, h5, .inr ⟨rfl, base, E', h1, h2.S.trans h.S, h2.rf.trans h.rf, h2.life.trans h.life, ?_, fun hx => (by cases hx), fun hx => (by omega), h.kept.trans h5 (by simp)⟩⟩
    rw [h3, h.S, h.now]; rfl
theorem step_wal {d du mp : Nat} {D : Dk} {L N : Nat} {w wr : World} {base : Nat} {E : Dk} (h : Stage d du mp D L N w 4 wr base E) (hL : 18 ≤ L ∧ L ≤ 256) (hS : 3 + L ≤ D.S) (hlf : D.life < 900000) :
    Calls Tryz.prog 37 #[.pointer (some ⟨d, 0, none⟩), .int .i64 1, .int .i64 L] wr (Val (StepPost d du mp D L N w 4 wr)) := by
  have hst := h.still rfl
  refine (show Calls Tryz.prog 37 #[.pointer (some ⟨d, 0, none⟩), .int .i64 1, .int .i64 L] wr (WFmtPost d du mp E 1 L wr) from wformat_walk d du mp base E 1 L wr h.disk (by rw [h.S]; omega) hL (by rw [h.S]; omega) hst.1 hst.2 (by rw [h.life, if_pos (by omega)]; omega)).mono ?_
  rintro e w' (⟨rfl, b', E', h1, h2, h3, h4, h5⟩ | ⟨rfl, b', E', h1, h2, h3, h5⟩)
  · exact ⟨3, rfl, h5, .inl ⟨rfl, b', E', h1, h2, h3.trans h.S, Nat.lt_of_lt_of_le h.life_lt h4⟩⟩
  · refine ⟨0, rfl, h5, .inr ⟨rfl, b', E', h1, h2.S.trans h.S, h2.rf.trans h.rf, ?_, ?_, fun hx => ⟨h3.pend, h3.np⟩, fun hx => (by omega), h.kept.trans h5 (by simp)⟩⟩
    · rw [h2.life]
      show E.life + 1 = _
      rw [h.life]; rfl
    · rw [h3.now, h.now]; rfl
def SFmtPost (d du mp : Nat) (D : Dk) (L N : Nat) (w : World) (e : Ending) (w' : World) : Prop :=
  (e = .returned (.int .i64 3) ∧ D.burnt = true ∧ Kept [] w w') ∨
  (e = .returned (.int .i64 3) ∧ ∃ base E, DiskAt w' d du mp base E ∧ E.burnt = true ∧ E.S = D.S ∧ D.life < E.life ∧ Kept [d, du, mp] w w') ∨
  (e = .returned (.int .i64 0) ∧ ∃ base E, Stage d du mp D L N w 7 w' base E)
set_option maxRecDepth 100000 in
set_option maxHeartbeats 2000000 in
theorem sformat_walk (d du mp base : Nat) (D : Dk) (L N : Nat) (w : World) (h : DiskAt w d du mp base D) (hg : geoOk D.S L N = true) (hp : ∀ i, D.pend i = none) (hnp : D.np = 0) (hlf : D.life < 900000) :
    Calls Tryz.prog 16 #[.pointer (some ⟨d, 0, none⟩), .agg #[.int .i64 D.S, .int .i64 L, .int .i64 N]] w (SFmtPost d du mp D L N w) := by
  have H := Lib.hid h
  have HPE := Lib.hid hp
  have HNP := Lib.hid hnp
  have HG := Lib.hid hg
  have hS := h.pos
  have hlow := h.low
  have hbl := h.base_le
  have hdl := lt_whole h.blk
  clear h hp hnp hg
  obtain ⟨S, hSe⟩ : ∃ S, S = D.S := ⟨_, rfl⟩
  rw [← hSe] at hS HG ⊢
  have HSE := Lib.hid hSe
  clear hSe
  go_enter Tryz.func16, Tryz.ntmps16
  go_upto_region 1 with fail
  have h2 : ((w.alloc (.cells #[.pointer (some ⟨d, 0, none⟩)] 23)).alloc (.cells #[.int .i64 S, .int .i64 L, .int .i64 N] 53)).heap[w.heap.size]? = some (.cells #[.pointer (some ⟨d, 0, none⟩)] 23 (0, 0)) := alloc_whole (heap_alloc_new w _)
  have h3 : ((w.alloc (.cells #[.pointer (some ⟨d, 0, none⟩)] 23)).alloc (.cells #[.int .i64 S, .int .i64 L, .int .i64 N] 53)).heap[w.heap.size + 1]? = some (.cells #[.int .i64 S, .int .i64 L, .int .i64 N] 53 (0, 0)) := by
    rw [← size_alloc w (.cells #[.pointer (some ⟨d, 0, none⟩)] 23)]; exact heap_alloc_new _ _
  have hk1 := ((Kept.refl [] w).alloc (.cells #[.pointer (some ⟨d, 0, none⟩)] 23)).alloc (.cells #[.int .i64 S, .int .i64 L, .int .i64 N] 53)
  generalize ((w.alloc (.cells #[.pointer (some ⟨d, 0, none⟩)] 23)).alloc (.cells #[.int .i64 S, .int .i64 L, .int .i64 N] 53)) = w1 at *
  obtain ⟨b2, hb2⟩ : ∃ b2, b2 = w.heap.size := ⟨_, rfl⟩
  rw [← hb2] at h2 h3 ⊢
  have HB2 := Lib.hid (Nat.le_of_eq hb2.symm)
  clear hb2
  have H2 := Lib.hid h2
  have H3 := Lib.hid h3
  have HK1 := Lib.hid hk1
  have HD1 := Lib.hid (H.out.kept0 hk1)
  have HBU := Lib.hid (burnt_walk d du mp base D w1 HD1.out)
  have c2 := cell_whole h2 0
  have l2 := lt_whole h2
  simp only [List.getElem?_toArray, List.getElem?_cons_zero] at c2
  clear h2 h3 hk1
  cases hb : D.burnt with
  | true =>
    rw [hb] at HBU
    go_wp2_with fail
    refine HBU.out.mono ?_
    rintro e w2 ⟨rfl, rfl⟩
    go_wp2
    go_ret
    exact .inl ⟨rfl, hb, HK1.out⟩
  | false =>
    rw [hb] at HBU
    have HE := Lib.hid (encodeSuper_walk S L N w1 HG.out)
    have e0 := cell_whole H3.out 0
    have e1 := cell_whole H3.out 1
    have e2 := cell_whole H3.out 2
    have l3 := lt_whole H3.out
    simp only [List.getElem?_toArray, List.getElem?_cons_zero, List.getElem?_cons_succ] at e0 e1 e2
    go_wp2_with fail
    refine HBU.out.mono ?_
    rintro e w2 ⟨rfl, rfl⟩
    go_wp2_with fail
    refine HE.out.mono ?_
    rintro e w3 ⟨hk3, g, hg, rfl, hB⟩
    have HK3 := Lib.hid (HK1.out.trans hk3 (by simp))
    have hk4 := (Kept.refl [] w3).alloc (.cells #[.slice (some ⟨g, 0, none⟩) 512 512] 22)
    have H23 := Lib.hid ((hk3.trans hk4 (by simp)).keep H2.out (by simp))
    have H33 := Lib.hid ((hk3.trans hk4 (by simp)).keep H3.out (by simp))
    have HD3 := Lib.hid (HD1.out.kept0 (hk3.trans hk4 (by simp)))
    have HB3 := Lib.hid (hB.kept hk4 (by simp))
    have HG3 := Lib.hid (Nat.le_trans HK1.out.size hg)
    have HK4 := Lib.hid (HK3.out.trans hk4 (by simp))
    have h5 := heap_alloc_new w3 (.cells #[.slice (some ⟨g, 0, none⟩) 512 512] 22)
    have hsz3 := HK3.out.size
    clear hk3 hg hB hk4 HE HBU c2 l2 e0 e1 e2 l3
    go_upto_region 6 with fail
    generalize w3.alloc (.cells #[.slice (some ⟨g, 0, none⟩) 512 512] 22) = w4 at *
    generalize hb5 : w3.heap.size = b5 at *
    have HB5 := Lib.hid hsz3
    have H5 := Lib.hid h5
    have hsq := fun nq => sectors_walk d du mp base D (w4.drewN nq) (HD3.out.drewN nq)
    rw [← HSE.out] at hsq
    have HSQ := Lib.hid hsq
    have HTW := Lib.hid (fun nq => take_walk d du mp base D (w4.drewN nq) (HD3.out.drewN nq) (by omega))
    have c2 := cell_whole H23.out 0
    have e0 := cell_whole H33.out 0
    have l2 := lt_whole H23.out
    have l3 := lt_whole H33.out
    simp only [List.getElem?_toArray, List.getElem?_cons_zero] at c2 e0
    clear hb5 hsz3 h5 hsq
    go_quiet ((go_at_call 9; exact Calls.quiet_of_same (HSQ.out _)))
    go_wp2_with fail
    refine (HTW.out nq).mono ?_
    rintro e w5 ⟨rfl, hd5, hk5⟩
    have hmf : ∀ (fn : Fn) (first cap : Array Value) (w : World), (Instr.makeFunc fn first cap).run Tryz.prog w = .ok (.func fn first cap) w := fun _ _ _ _ => rfl
    have hne : ∀ x, w.heap.size ≤ x → x ∉ [d] ∧ x ∉ [d, du, mp] := fun x hx => by simp; omega
    have HNE := Lib.hid hne
    have hk5' := ((Kept.refl [d] w4).drewN nq).trans hk5 (by simp)
    have HD5 := Lib.hid hd5
    have H25 := Lib.hid (hk5'.keep H23.out (hne _ HB2.out).1)
    have H35 := Lib.hid (hk5'.keep H33.out (hne _ (Nat.le_succ_of_le HB2.out)).1)
    have H55 := Lib.hid (hk5'.keep H5.out (hne _ HB5.out).1)
    have HB5b := Lib.hid (HB3.out.kept hk5' (hne _ HG3.out).1)
    have HK5 := Lib.hid ((HK4.out.mono (G := [d, du, mp]) (by simp)).trans hk5' (by simp))
    clear c2 e0 l2 l3 hne hk5' hd5 hk5
    have hms := make_sec w5
    go_upto_region 10 with fail
    have hk7 := ((Kept.refl [] w5).alloc (.cells (bcells zsec).toArray 5)).alloc (.cells #[.slice (some ⟨w5.heap.size, 0, none⟩) 512 512] 22)
    have h7 := heap_alloc_new (w5.alloc (.cells (bcells zsec).toArray 5)) (.cells #[.slice (some ⟨w5.heap.size, 0, none⟩) 512 512] 22)
    have hz7 : Bytes ((w5.alloc (.cells (bcells zsec).toArray 5)).alloc (.cells #[.slice (some ⟨w5.heap.size, 0, none⟩) 512 512] 22)) w5.heap.size zsec := alloc_whole (heap_alloc_new w5 _)
    rw [size_alloc] at h7
    have hwz := HK5.out.size
    generalize (w5.alloc (.cells (bcells zsec).toArray 5)).alloc (.cells #[.slice (some ⟨w5.heap.size, 0, none⟩) 512 512] 22) = w7 at *
    generalize w5.heap.size = z at *
    have HZ := Lib.hid hwz
    have H77 := Lib.hid h7
    have HZ7 := Lib.hid hz7
    have H27 := Lib.hid (hk7.keep H25.out (by simp))
    have H37 := Lib.hid (hk7.keep H35.out (by simp))
    have H57 := Lib.hid (hk7.keep H55.out (by simp))
    have HB7 := Lib.hid (HB5b.out.kept hk7 (by simp))
    have HD7 := Lib.hid (HD5.out.kept0 hk7)
    have HK7 := Lib.hid (HK5.out.trans hk7 (by simp))
    have c2 := cell_whole H27.out 0
    have l2 := lt_whole H27.out
    simp only [List.getElem?_toArray, List.getElem?_cons_zero] at c2
    clear hms h7 hz7 hwz hk7
    go_upto_region 11 with fail
    have hf8 := heap_alloc_new w7 (.cells #[.func (.func 31) #[] #[.pointer (some ⟨b2, 0, none⟩), .pointer (some ⟨z + 1, 0, none⟩)], .func (.func 33) #[.pointer (some ⟨d, 0, none⟩)] #[], .func (.func 34) #[] #[.pointer (some ⟨b2, 0, none⟩)], .func (.func 33) #[.pointer (some ⟨d, 0, none⟩)] #[], .func (.func 36) #[] #[.pointer (some ⟨b2, 0, none⟩), .pointer (some ⟨b2 + 1, 0, none⟩)], .func (.func 38) #[] #[.pointer (some ⟨b2, 0, none⟩), .pointer (some ⟨b5, 0, none⟩)], .func (.func 33) #[.pointer (some ⟨d, 0, none⟩)] #[]] 65)
    have hk8 := (Kept.refl [] w7).alloc (.cells #[.func (.func 31) #[] #[.pointer (some ⟨b2, 0, none⟩), .pointer (some ⟨z + 1, 0, none⟩)], .func (.func 33) #[.pointer (some ⟨d, 0, none⟩)] #[], .func (.func 34) #[] #[.pointer (some ⟨b2, 0, none⟩)], .func (.func 33) #[.pointer (some ⟨d, 0, none⟩)] #[], .func (.func 36) #[] #[.pointer (some ⟨b2, 0, none⟩), .pointer (some ⟨b2 + 1, 0, none⟩)], .func (.func 38) #[] #[.pointer (some ⟨b2, 0, none⟩), .pointer (some ⟨b5, 0, none⟩)], .func (.func 33) #[.pointer (some ⟨d, 0, none⟩)] #[]] 65)
    have hwf := HK7.out.size
    generalize w7.alloc (.cells #[.func (.func 31) #[] #[.pointer (some ⟨b2, 0, none⟩), .pointer (some ⟨z + 1, 0, none⟩)], .func (.func 33) #[.pointer (some ⟨d, 0, none⟩)] #[], .func (.func 34) #[] #[.pointer (some ⟨b2, 0, none⟩)], .func (.func 33) #[.pointer (some ⟨d, 0, none⟩)] #[], .func (.func 36) #[] #[.pointer (some ⟨b2, 0, none⟩), .pointer (some ⟨b2 + 1, 0, none⟩)], .func (.func 38) #[] #[.pointer (some ⟨b2, 0, none⟩), .pointer (some ⟨b5, 0, none⟩)], .func (.func 33) #[.pointer (some ⟨d, 0, none⟩)] #[]] 65) = w8 at *
    generalize w7.heap.size = f at *
    have HF8 := Lib.hid hf8
    have HWF := Lib.hid hwf
    have H28 := Lib.hid (hk8.keep H27.out (by simp))
    have H38 := Lib.hid (hk8.keep H37.out (by simp))
    have H58 := Lib.hid (hk8.keep H57.out (by simp))
    have H78 := Lib.hid (hk8.keep H77.out (by simp))
    have HB8 := Lib.hid (HB7.out.kept hk8 (by simp))
    have HZ8 := Lib.hid (HZ7.out.kept hk8 (by simp))
    have HST := Lib.hid (show Stage d du mp D L N w 0 w8 base D.take from ⟨HD7.out.kept0 hk8, rfl, rfl, rfl, rfl, fun _ => ⟨HPE.out, HNP.out⟩, fun hx => by omega, HK7.out.trans hk8 (by simp)⟩)
    have hbd : 18 ≤ L ∧ L ≤ 256 ∧ 3 + L ≤ S := by
      have := HG.out
      unfold geoOk at this
      simp only [Bool.and_eq_true, decide_eq_true_eq] at this
      omega
    clear c2 l2 hf8 hwf hk8
    go_wp2_with fail
    go_loopw [10, 11, 43] (fun _ _ v43 wr => ∃ (k : Nat) (b : Nat) (E : Dk), k ≤ 7 ∧ v43 = .int .i64 k ∧ Stage d du mp D L N w k wr b E ∧ Kept [d, du, mp] w8 wr) (fun _ _ v43 _ => 7 - (intOf v43).toNat)
    case atStart => exact ⟨0, base, D.take, by omega, rfl, HST.out, Kept.refl _ _⟩
    case round =>
      obtain ⟨k, b, E, hk, rfl, hst, hkk⟩ := hrel
      have HS := Lib.hid hst
      have HKK := Lib.hid hkk
      have c2 := cell_whole (hkk.keep H28.out (HNE.out _ HB2.out).2) 0
      have c3 := cell_whole (hkk.keep H38.out (HNE.out _ (Nat.le_succ_of_le HB2.out)).2) 1
      have c5 := cell_whole (hkk.keep H58.out (HNE.out _ HB5.out).2) 0
      have c7 := cell_whole (hkk.keep H78.out (HNE.out _ (Nat.le_succ_of_le HZ.out)).2) 0
      have hfr := hkk.keep HF8.out (HNE.out _ HWF.out).2
      have HBR := Lib.hid (HB8.out.kept hkk (HNE.out _ HG3.out).2)
      have HZR := Lib.hid (HZ8.out.kept hkk (HNE.out _ HZ.out).2)
      have lfr := lt_whole hfr
      simp only [List.getElem?_toArray, List.getElem?_cons_zero, List.getElem?_cons_succ] at c2 c3 c5 c7
      have hbl' : b ≤ wr.heap.size := hst.disk.base_le
      clear hst hkk
      rcases (show k = 7 ∨ k = 0 ∨ k = 1 ∨ k = 2 ∨ k = 3 ∨ k = 4 ∨ k = 5 ∨ k = 6 by omega) with rfl | rfl | rfl | rfl | rfl | rfl | rfl | rfl
      · clear hfr c2 c3 c5 c7 hk
        go_wp2
        go_ret
        exact .inr (.inr ⟨rfl, b, E, HS.out⟩)
      have cf := cell_whole hfr 0
      have HC := Lib.hid (fc1_walk b2 (z + 1) d _ wr (StepPost d du mp D L N w 0 wr) c2 c7 (step_write HS.out rfl rfl (by omega) (by omega) zsec z HZR.out zsec_length rfl))
      rotate_left
      have cf := cell_whole hfr 1
      have HC := Lib.hid (step_flush HS.out (by omega) rfl)
      rotate_left
      have cf := cell_whole hfr 2
      have HC := Lib.hid (fc2_walk b2 d wr (StepPost d du mp D L N w 2 wr) c2 (step_zero HS.out))
      rotate_left
      have cf := cell_whole hfr 3
      have HC := Lib.hid (step_flush HS.out (by omega) rfl)
      rotate_left
      have cf := cell_whole hfr 4
      have HC := Lib.hid (fc3_walk b2 (b2 + 1) d _ wr (StepPost d du mp D L N w 4 wr) c2 c3 (step_wal HS.out ⟨hbd.1, hbd.2.1⟩ (by rw [← HSE.out]; exact hbd.2.2) hlf))
      rotate_left
      have cf := cell_whole hfr 5
      have HC := Lib.hid (fc4_walk b2 b5 d _ wr (StepPost d du mp D L N w 5 wr) c2 c5 (step_write HS.out rfl rfl (by omega) (by omega) (superB S L N) g HBR.out (superB_length S L N) (by rw [HSE.out]; rfl)))
      rotate_left
      have cf := cell_whole hfr 6
      have HC := Lib.hid (step_flush HS.out (by omega) rfl)
      rotate_left
      all_goals
        simp only [List.getElem?_toArray, List.getElem?_cons_zero, List.getElem?_cons_succ] at cf
        clear hfr c2 c3 c5 c7 hk
        go_wp2_with fail
        refine HC.out.mono ?_
        rintro e w' ⟨hk', hpost⟩
        have HK' := Lib.hid hk'
        clear hk' cf
        rcases hpost with ⟨rfl, b', E', h1, h2, h3, h4⟩ | ⟨rfl, b', E', hst'⟩
        · have HX := Lib.hid (show SFmtPost d du mp D L N w (.returned (.int .i64 3)) w' from .inr (.inl ⟨rfl, b', E', h1, h2, h3, h4, HS.out.kept.trans HK'.out (by simp)⟩))
          clear h1 h2 h3 h4
          go_wp2
          go_ret
          exact HX.out
        · have HST' := Lib.hid hst'
          clear hst'
          go_wp2
          go_roundw
          case rel =>
            refine ⟨_, b', E', ?_, ?_, HST'.out, HKK.out.trans HK'.out (by simp)⟩
            · omega
            · rfl
          case measure => simp [intOf]
end Go.Proofs.YtikfphojehgpjaaGreatDoor
/- store: Format of a geometry that may not be. -/
namespace Go.Proofs.YtikfphojehgpjaaGreatDoor
open Go.RowKit Vl Go.Maps Go.ChangeMaps
set_option linter.unusedVariables false

def SBadPost (D : Dk) (w : World) (e : Ending) (w' : World) : Prop := e = .returned (.int .i64 (if D.burnt = true then 3 else 22)) ∧ Kept [] w w'
set_option maxRecDepth 100000 in
set_option maxHeartbeats 2000000 in
theorem sformat_bad (d du mp base : Nat) (D : Dk) (L N : Int) (w : World) (h : DiskAt w d du mp base D) (hL : IntOk L) (hN : IntOk N) (hg : geoOk D.S L N = false) :
    Calls Tryz.prog 16 #[.pointer (some ⟨d, 0, none⟩), .agg #[.int .i64 D.S, .int .i64 L, .int .i64 N]] w (SBadPost D w) := by
  have H := Lib.hid h
  have HG := Lib.hid hg
  have hS := h.pos
  have HL := Lib.hid hL
  have HN := Lib.hid hN
  clear h hg hL hN
  obtain ⟨S, hSe⟩ : ∃ S, S = D.S := ⟨_, rfl⟩
  rw [← hSe] at hS HG ⊢
  clear hSe
  go_enter Tryz.func16, Tryz.ntmps16
  go_upto_region 1 with fail
  have h2 : ((w.alloc (.cells #[.pointer (some ⟨d, 0, none⟩)] 23)).alloc (.cells #[.int .i64 S, .int .i64 L, .int .i64 N] 53)).heap[w.heap.size]? = some (.cells #[.pointer (some ⟨d, 0, none⟩)] 23 (0, 0)) := alloc_whole (heap_alloc_new w _)
  have h3 : ((w.alloc (.cells #[.pointer (some ⟨d, 0, none⟩)] 23)).alloc (.cells #[.int .i64 S, .int .i64 L, .int .i64 N] 53)).heap[w.heap.size + 1]? = some (.cells #[.int .i64 S, .int .i64 L, .int .i64 N] 53 (0, 0)) := by
    rw [← size_alloc w (.cells #[.pointer (some ⟨d, 0, none⟩)] 23)]; exact heap_alloc_new _ _
  have hk1 := ((Kept.refl [] w).alloc (.cells #[.pointer (some ⟨d, 0, none⟩)] 23)).alloc (.cells #[.int .i64 S, .int .i64 L, .int .i64 N] 53)
  generalize ((w.alloc (.cells #[.pointer (some ⟨d, 0, none⟩)] 23)).alloc (.cells #[.int .i64 S, .int .i64 L, .int .i64 N] 53)) = w1 at *
  generalize w.heap.size = b2 at *
  have HK1 := Lib.hid hk1
  have HBU := Lib.hid (burnt_walk d du mp base D w1 (H.out.kept0 hk1))
  have HE := Lib.hid (encodeSuper_bad S L N w1 ⟨by omega, by omega⟩ HL.out HN.out HG.out)
  have c2 := cell_whole h2 0
  have l2 := lt_whole h2
  have e0 := cell_whole h3 0
  have e1 := cell_whole h3 1
  have e2 := cell_whole h3 2
  have l3 := lt_whole h3
  simp only [List.getElem?_toArray, List.getElem?_cons_zero, List.getElem?_cons_succ] at c2 e0 e1 e2
  clear h2 h3 hk1
  cases hb : D.burnt with
  | true =>
    rw [hb] at HBU
    go_wp2_with fail
    refine HBU.out.mono ?_
    rintro e w2 ⟨rfl, rfl⟩
    go_wp2
    go_ret
    exact ⟨by rw [hb]; rfl, HK1.out⟩
  | false =>
    rw [hb] at HBU
    go_wp2_with fail
    refine HBU.out.mono ?_
    rintro e w2 ⟨rfl, rfl⟩
    go_wp2_with fail
    refine HE.out.mono ?_
    rintro e w3 ⟨rfl, hk3⟩
    have HK3 := Lib.hid ((HK1.out.trans hk3 (by simp)).alloc (.cells #[.slice none 0 0] 22))
    clear hk3
    go_wp2
    go_ret
    exact ⟨by rw [hb]; rfl, HK3.out⟩
end Go.Proofs.YtikfphojehgpjaaGreatDoor
/- wal: the ring, where nothing is sealed. -/
namespace Go.Proofs.YtikfphojehgpjaaGreatDoor
open Go.RowKit Vl Go.Maps Go.ChangeMaps
set_option linter.unusedVariables false

/-- A row of n empty pieces. -/
def Pieces (w : World) (g n : Nat) : Prop := ∃ C : Array Value, w.heap[g]? = some (.cells C 252 (0, 0)) ∧ ∀ i, i < n → C[i * 5]? = some (.int .i64 0) ∧ C[i * 5 + 1]? = some (.int .i64 0) ∧ C[i * 5 + 2]? = some (.int .i64 0) ∧ C[i * 5 + 3]? = some (.int .i64 0) ∧ C[i * 5 + 4]? = some (.slice none 0 0)
theorem Pieces.kept {w w' : World} {g n : Nat} {F : List Nat} (h : Pieces w g n) (hk : Kept F w w') (hg : g ∉ F) : Pieces w' g n := by
  obtain ⟨C, h1, h2⟩ := h
  exact ⟨C, hk.keep h1 hg, h2⟩
theorem info252 : (Tryz.prog.info? 252).map (fun i => (i.zero, i.size, i.bytes)) = some (some (.agg #[.int .i64 0, .int .i64 0, .int .i64 0, .int .i64 0, .slice none 0 0]), 5, 56) := by kernel_rfl
theorem make_pieces (w : World) (n : Nat) (hn : n ≤ 256) : ∃ C : Array Value, (Instr.makeSlice 186 (.int .i64 n) (.int .i64 n)).run Tryz.prog w = .ok (.slice (some ⟨w.heap.size, 0, none⟩) n n) (w.alloc (.cells C 252)) ∧ Pieces (w.alloc (.cells C 252)) w.heap.size n := by
  have hi := info252
  cases hq : Tryz.prog.info? 252 with
  | none => rw [hq] at hi; simp at hi
  | some i =>
    rw [hq] at hi
    simp only [Option.map_some, Option.some.injEq, Prod.mk.injEq] at hi
    obtain ⟨hz, hsz, hby⟩ := hi
    have := run_make (P := Tryz.prog) w 186 252 i _ Tryz.underlying186 hq hz .i64 .i64 n n (by omega) (by omega) (by rw [hby]; omega) (by omega)
    rw [hsz] at this
    refine ⟨_, this, _, heap_alloc_new w _, fun k hk => ?_⟩
    have key : ∀ j, j < 5 → (madeCells (Value.agg #[.int .i64 0, .int .i64 0, .int .i64 0, .int .i64 0, .slice none 0 0]).cells ((n : Int).toNat * 5))[k * 5 + j]? = some ((#[.int .i64 0, .int .i64 0, .int .i64 0, .int .i64 0, .slice none 0 0] : Array Value)[j]!) := by
      intro j hj
      have e : (k * 5 + j) % 5 = j := by omega
      have hl : k * 5 + j < (n : Int).toNat * 5 := by omega
      unfold madeCells
      rw [Array.getElem?_map, Array.getElem?_range, if_pos hl]
      simp [Value.cells, e]
    exact ⟨key 0 (by omega), key 1 (by omega), key 2 (by omega), key 3 (by omega), key 4 (by omega)⟩

def Dk.rdd (D : Dk) (x : Int) : Dk := { D with rd := x }
def RingPost (d du mp base : Nat) (D : Dk) (L : Lg) (w : World) (e : Ending) (w' : World) : Prop := ∃ g x, w.heap.size ≤ g ∧ e = .returned (.tuple #[.slice (some ⟨g, 0, none⟩) L.n L.n, .int .i64 0]) ∧ Pieces w' g L.n ∧ DiskAt w' d du mp base (D.rdd x) ∧ Kept [d] w w'
set_option maxRecDepth 100000 in
set_option maxHeartbeats 2000000 in
theorem ring_walk (d du mp base g : Nat) (D : Dk) (L : Lg) (w : World) (h : DiskAt w d du mp base D) (hL : LogAt w g d L) (hg : g ≠ d) (hS : L.first + 2 + L.n ≤ D.S) (hb : D.burnt = false) (hz : ∀ j, j < L.n → D.now (L.first + 2 + j) = zsec) :
    Calls Tryz.prog 96 #[.pointer (some ⟨g, 0, none⟩)] w (RingPost d du mp base D L w) := by
  have H := Lib.hid h
  have HL := Lib.hid hL
  have HZ := Lib.hid hz
  have hn := hL.n
  have hdl := lt_whole h.blk
  obtain ⟨c0, _, c2, _⟩ := hL.cells
  have hlt := lt_whole hL.blk
  obtain ⟨C, hmk, hp⟩ := make_pieces w L.n hn.2
  have HP1 := Lib.hid hp
  have HK1 := Lib.hid ((Kept.refl [] w).alloc (.cells C 252))
  have HD1 := Lib.hid (h.kept0 HK1.out)
  clear h hL hz hp
  obtain ⟨n, hn'⟩ : ∃ n, n = L.n := ⟨_, rfl⟩
  have HN := Lib.hid hn'
  rw [← hn'] at c2 hn hmk HP1
  clear hn'
  go_enter Tryz.func96, Tryz.ntmps96
  go_upto_region 2 with fail
  generalize w.alloc (.cells C 252) = w1 at *
  generalize hr : w.heap.size = r at *
  have HR := Lib.hid (Nat.le_of_eq hr)
  clear hmk hr
  go_wp2_with fail
  go_loopw [5, 6, 7, 8, 9, 17] (fun _ _ _ _ _ v17 wr => ∃ (k : Nat) (x : Int), k ≤ n ∧ v17 = .int .i64 k ∧ DiskAt wr d du mp base (D.rdd x) ∧ Kept [d] w1 wr) (fun _ _ _ _ _ v17 _ => n - (intOf v17).toNat)
  case atStart => exact ⟨0, D.rd, by omega, rfl, HD1.out, Kept.refl _ _⟩
  case round =>
    obtain ⟨k, x, hk, rfl, hd, hkk⟩ := hrel
    have HDE := Lib.hid hd
    have HKK := Lib.hid hkk
    have HPR := Lib.hid (HP1.out.kept hkk (by simp; omega))
    have HKW : Hid (Kept [d] w wr) := Lib.hid ((HK1.out.mono (G := [d]) (by simp)).trans hkk (by simp))
    have HLR := Lib.hid (HL.out.kept HKW.out (by simpa using hg))
    clear hd hkk
    by_cases hkn : k < n
    · obtain ⟨d0, d1, d2, _⟩ := HLR.out.cells
      have hlr := lt_whole HLR.out.blk
      have hk0 : Kept [] wr wr.drew := (Kept.refl [] wr).drew
      have HAT : Hid (∀ w', Kept [] wr w' → Calls Tryz.prog 147 #[.pointer (some ⟨g, 0, none⟩), .int .i64 k] w' fun e w'' => e = .returned (.int .i64 ((L.first : Int) + 2 + (k : Int))) ∧ Kept [] wr w'' ∧ Kept [d] wr w'' ∧ w''.cell? ⟨g, 0, none⟩ = some (.pointer (some ⟨d, 0, none⟩))) := Lib.hid (fun w' hk' => (at_walk g d L w' (HLR.out.kept hk' (by simp)) k (by omega)).mono (by
        rintro e w'' ⟨rfl, m, rfl⟩
        refine ⟨?_, hk'.drewN m, (hk'.drewN m).mono (by simp), ?_⟩
        · rw [Nat.mod_eq_of_lt (by rw [← HN.out]; exact hkn)]
          exact congrArg (fun z => Ending.returned (Value.int .i64 z)) (by omega)
        · exact ((HLR.out.kept (hk'.drewN m) (by simp)).cells).1))
      have hcast : ((L.first + 2 + k : Nat) : Int) = (L.first : Int) + 2 + (k : Int) := by omega
      have HRD : Hid (∀ w', Kept [] wr w' → Calls Tryz.prog 40 #[.pointer (some ⟨d, 0, none⟩), .int .i64 ((L.first : Int) + 2 + (k : Int))] w' fun e w'' => ∃ q y, wr.heap.size ≤ q ∧ e = .returned (.tuple #[.slice (some ⟨q, 0, none⟩) 512 512, .int .i64 0]) ∧ Bytes w'' q zsec ∧ DiskAt w'' d du mp base (D.rdd y) ∧ Kept [d] wr w'' ∧ w''.cell? ⟨g, 0, none⟩ = some (.pointer (some ⟨d, 0, none⟩))) := Lib.hid (fun w' hk' => (show Calls Tryz.prog 40 #[.pointer (some ⟨d, 0, none⟩), .int .i64 ((L.first : Int) + 2 + (k : Int))] w' (ReadPost d du mp base (D.rdd x) (L.first + 2 + k) w') from hcast ▸ read_walk d du mp base (D.rdd x) w' (HDE.out.kept0 hk') (L.first + 2 + k) (by have := HN.out; show _ < D.S; omega)).mono (by
        rintro e w'' (⟨hb', _⟩ | ⟨_, q, hq, rfl, hB, hD, hK⟩)
        · have : D.burnt = true := hb'
          rw [hb] at this; cases this
        · refine ⟨q, _, Nat.le_trans hk'.size hq, rfl, ?_, hD, (hk'.mono (G := [d]) (by simp)).trans hK (by simp), ((HLR.out.kept ((hk'.mono (G := [d]) (by simp)).trans hK (by simp)) (by simpa using hg)).cells).1⟩
          have : (D.rdd x).now (L.first + 2 + k) = zsec := HZ.out k (by rw [← HN.out]; exact hkn)
          rw [this] at hB
          exact hB))
      clear hcast
      have hk1 : Kept [d] wr wr.drew := (Kept.refl [d] wr).drew
      have e0 : wr.drew.cell? ⟨g, 0, none⟩ = some (.pointer (some ⟨d, 0, none⟩)) := d0
      go_wp2_with fail
      go_region_held3 (fun w' => w'.cell? ⟨g, 0, none⟩ = some (.pointer (some ⟨d, 0, none⟩)) ∧ Kept [d] wr w')
        (first
          | (with_reducible exact ⟨e0, hk1⟩)
          | (with_reducible exact ⟨hcw, hkd⟩)
          | (with_reducible exact ⟨hcy, hKy⟩))
        ((first
          | (go_simp; go_at_call 147; (with_reducible refine (HAT.out _ hk0).mono ?_); rintro e w' ⟨rfl, hkw, hkd, hcw⟩)
          | (go_simp; go_at_call 40; (with_reducible refine (HRD.out _ hkw).mono ?_); rintro e w'' ⟨q, y, hq, rfl, hBq, hDy, hKy, hcy⟩)))
      have HO := Lib.hid (open_walk zsec q 0 512 w'' hBq.at zsec_length zsec_bodied.2)
      have HDY := Lib.hid hDy
      have HKY := Lib.hid hKy
      clear hBq hDy hKy hq hcy hkw hkd hcw hk0 hk1 e0 d0 d1 d2 hlr
      go_wp2_with fail
      refine HO.out.mono ?_
      rintro e w3 ⟨hk3, hcase⟩
      have HD3 := Lib.hid (HDY.out.kept0 hk3)
      have HK3 := Lib.hid ((HKK.out.trans HKY.out (by simp)).trans hk3 (by simp))
      clear hk3
      rcases hcase with ⟨_, rfl⟩ | ⟨b, ga, hbo, _⟩
      · go_wp2
        go_roundw
        case rel => exact ⟨k + 1, y, by omega, by go_num, HD3.out, HK3.out⟩
        case measure => simp [intOf]; omega
      · rw [openB_zero] at hbo; cases hbo
    · obtain rfl : k = n := by omega
      clear hkn
      go_wp2
      go_ret2
      refine ⟨r, x, HR.out, ?_, ?_, HDE.out, HKW.out⟩
      · rw [← HN.out]; rfl
      · rw [← HN.out]; exact HPR.out

set_option maxRecDepth 100000 in
set_option maxHeartbeats 2000000 in
theorem top_walk (ep g n : Nat) (w : World) (h : Pieces w g n) (hep : ep ≤ 1073741824) (hn : n ≤ 256) :
    Calls Tryz.prog 97 #[.int .i64 ep, .slice (some ⟨g, 0, none⟩) n n] w fun e w' => e = .returned (.int .i64 ep) ∧ Kept [] w w' := by
  have H := Lib.hid h
  clear h
  go_enter Tryz.func97, Tryz.ntmps97
  go_wp2_with fail
  go_loopw [0, 6, 9] (fun v0 _ v9 wr => ∃ k : Nat, k ≤ n ∧ v9 = .int .i64 k ∧ v0 = .int .i64 ep ∧ Kept [] w wr) (fun _ _ v9 _ => n - (intOf v9).toNat)
  case atStart => exact ⟨0, by omega, rfl, rfl, Kept.refl _ _⟩
  case round =>
    obtain ⟨k, hk, rfl, rfl, hkk⟩ := hrel
    have HKK := Lib.hid hkk
    clear hkk
    by_cases hkn : k < n
    · obtain ⟨C, hC, hp⟩ := H.out.kept HKK.out (by simp)
      obtain ⟨p0, p1, p2, p3, p4⟩ := hp k hkn
      have q0 := cell_whole hC (k * 5)
      have q1 := cell_whole hC (k * 5 + 1)
      have q2 := cell_whole hC (k * 5 + 2)
      have q3 := cell_whole hC (k * 5 + 3)
      have q4 := cell_whole hC (k * 5 + 4)
      rw [p0] at q0
      rw [p1] at q1
      rw [p2] at q2
      rw [p3] at q3
      rw [p4] at q4
      have hlt := lt_whole hC
      have HK2 := Lib.hid (HKK.out.alloc (.cells #[.int .i64 0, .int .i64 0, .int .i64 0, .int .i64 0, .slice none 0 0] 252))
      clear hC hp p0 p1 p2 p3 p4
      go_wp2
      exact ⟨⟨k + 1, by omega, by go_num, rfl, HK2.out⟩, by simp [intOf]; omega⟩
    · obtain rfl : k = n := by omega
      clear hkn
      go_wp2
      go_ret
      exact ⟨rfl, HKK.out⟩
end Go.Proofs.YtikfphojehgpjaaGreatDoor
