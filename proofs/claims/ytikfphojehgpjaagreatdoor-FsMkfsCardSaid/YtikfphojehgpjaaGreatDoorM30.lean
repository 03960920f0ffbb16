/- fs: guarded. -/
import Derived.Test.YtikfphojehgpjaaGreatDoorM29
set_option linter.unusedSimpArgs false
set_option linter.unusedVariables false
namespace Go.Proofs.YtikfphojehgpjaaGreatDoor
open Go.RowKit Vl Go.Maps Go.ChangeMaps
set_option linter.unusedVariables false
set_option maxRecDepth 100000 in
set_option maxHeartbeats 1000000 in
theorem catchF_idle (eb : Nat) (w : World) :
    CallsD Tryz.prog 48 #[.pointer (some ⟨eb, 0, none⟩)] .returning w fun e u' w' => e = .returned (.tuple #[]) ∧ u' = .returning ∧ Kept [] w w' := by
  have HP := Lib.hid (caught_nil w)
  refine callsD_of_wpS Tryz.func48 rfl fun c₀ cs hu => ?_
  apply wpS_seq
  apply wpS_region
  simp [wpOpsS, go_sem, recoverD, hu, Tryz.ntmps48, Exit.thenS]
  refine HP.out.mono ?_
  rintro e w' ⟨rfl, hk⟩
  have HK := Lib.hid hk
  clear hk
  refine wpS_of_wp ?_
  simp only [Array.replicate_succ, Array.replicate_zero, List.push_toArray, List.append_toArray, List.nil_append, List.cons_append, Array.setIfInBounds, List.size_toArray, List.length_cons, List.length_nil, Nat.reduceAdd, Nat.reduceLT, dite_true, Array.set, List.set_cons_succ, List.set_cons_zero]
  go_wp2
  cases c₀
  have hk := HK.out
  simp_all [bodyPostS, results, Tryz.results48]
set_option maxRecDepth 100000 in
set_option maxHeartbeats 1000000 in
theorem catchF {F : List Nat} {d du mp : Nat} {D : Dk} {w0 w : World} {tr j f eb : Nat} {wk v0 : Value} (h : Thrown F d du mp D w0 tr j f wk w) (hg : Glob w) (he : w.heap[eb]? = some (.cells #[v0] 24 (0, 0))) :
    CallsD Tryz.prog 48 #[.pointer (some ⟨eb, 0, none⟩)] (.panicking [{ v := .iface 121 (.pointer (some ⟨tr, 0, none⟩)), recovered := false }]) w fun e u' w' =>
      e = .returned (.tuple #[]) ∧ u' = .panicking [{ v := .iface 121 (.pointer (some ⟨tr, 0, none⟩)), recovered := true }] ∧ w'.heap[eb]? = some (.cells #[.int .i64 3] 24 (0, 0)) ∧ Kept [eb] w w' := by
  have HP := Lib.hid (caught_thrown h hg)
  have HE := Lib.hid he
  have HT := Lib.hid h.tr_
  clear h hg he
  refine callsD_of_wpS Tryz.func48 rfl fun c₀ cs hu => ?_
  apply wpS_seq
  apply wpS_region
  simp [wpOpsS, go_sem, recoverD, hu, Tryz.ntmps48, Exit.thenS]
  refine HP.out.mono ?_
  rintro e w' ⟨rfl, hk⟩
  have HK := Lib.hid hk
  have he1 := hk.keep HE.out (by simp)
  have ht1 := hk.keep HT.out (by simp)
  have t1 : w'.cell? ⟨tr, 1, none⟩ = some (.int .i64 3) := cell_whole ht1 1
  have tl := lt_whole ht1
  have e0 := cell_whole he1 0
  have ef := frozen_whole he1 0
  have el := lt_whole he1
  simp only [List.getElem?_toArray, List.getElem?_cons_zero] at e0
  have HS := Lib.hid (set_whole (i := 0) he1 (.int .i64 3))
  have HK2 := Lib.hid ((hk.mono (G := [eb]) (by simp)).trans ((Kept.refl [eb] w').setCell ⟨eb, 0, none⟩ (.int .i64 3) (.inl (by simp))) (by simp))
  clear hk he1 ht1
  refine wpS_of_wp ?_
  simp only [Array.replicate_succ, Array.replicate_zero, List.push_toArray, List.append_toArray, List.nil_append, List.cons_append, Array.setIfInBounds, List.size_toArray, List.length_cons, List.length_nil, Nat.reduceAdd, Nat.reduceLT, dite_true, Array.set, List.set_cons_succ, List.set_cons_zero]
  go_wp2
  cases c₀
  have hs := HS.out
  have hk := HK2.out
  simp_all [bodyPostS, results, Tryz.results48]
theorem res18 (tmps : Array Value) (w : World) (b : Nat) (v : Value) (h0 : tmps.getD 2 undef = .pointer (some ⟨b, 0, none⟩)) (c0 : w.cell? ⟨b, 0, none⟩ = some v) : (results Tryz.f18 tmps).run Tryz.prog w = .ok v w := by
  have h0' : tmps[2]?.getD undef = .pointer (some ⟨b, 0, none⟩) := by simpa using h0
  simp [results, Tryz.results18, h0', asAddr, loadVar, c0, go_sem]
theorem doorF_idle {tmps : Array Value} {R : Ending → World → Prop} {w : World} {b : Nat} {v : Value} (t0 : tmps.getD 2 undef = .pointer (some ⟨b, 0, none⟩)) (h0 : w.heap[b]? = some (.cells #[v] 24 (0, 0))) (hR : ∀ w', Kept [] w w' → R (.returned v) w') :
    Leaves Tryz.prog Tryz.f18 tmps R [{ target := .fn (.func 48) #[.pointer (some ⟨b, 0, none⟩)], args := #[] }] .returning w := by
  refine leaves_cons (f := 48) (args := #[.pointer (some ⟨b, 0, none⟩)]) (by simp) (by simp [go_sem]) ?_
  refine (catchF_idle b w).mono ?_
  rintro e u' w'' ⟨rfl, rfl, hk⟩
  exact ⟨_, res18 tmps w'' b _ t0 (cell_whole (hk.keep h0 (by simp)) 0), hR _ hk⟩
theorem doorF {tmps : Array Value} {R : Ending → World → Prop} {F : List Nat} {d du mp : Nat} {D : Dk} {w0 w : World} {tr j f b : Nat} {wk v : Value} (t0 : tmps.getD 2 undef = .pointer (some ⟨b, 0, none⟩)) (h : Thrown F d du mp D w0 tr j f wk w) (hg : Glob w) (h0 : w.heap[b]? = some (.cells #[v] 24 (0, 0)))
    (hR : ∀ w', Kept [b] w w' → R (.returned (.int .i64 3)) w') :
    Leaves Tryz.prog Tryz.f18 tmps R [{ target := .fn (.func 48) #[.pointer (some ⟨b, 0, none⟩)], args := #[] }] (.panicking [{ v := .iface 121 (.pointer (some ⟨tr, 0, none⟩)), recovered := false }]) w := by
  refine leaves_cons (f := 48) (args := #[.pointer (some ⟨b, 0, none⟩)]) (by simp) (by simp [go_sem]) ?_
  refine (catchF h hg h0).mono ?_
  rintro e u' w'' ⟨rfl, rfl, h1, hk⟩
  exact ⟨_, res18 tmps w'' b _ t0 (cell_whole h1 0), hR _ hk⟩
def GuPost (s d g du mp ov : Nat) (D : Dk) (L N : Nat) (w : World) (e : Ending) (w' : World) : Prop :=
  (e = .returned (.int .i64 3) ∧ ∃ D', DiskW w' d du mp D' ∧ D'.burnt = true ∧ D'.S = D.S ∧ D.life ≤ D'.life ∧ Kept [d, du, mp, s, g, ov] w w') ∨
  (e = .returned (.int .i64 0) ∧ ∃ D' base', DiskAt w' d du mp base' D' ∧ Sim D D' ∧ Flushed D' (mkIm D.now L N) ∧ Kept [d, du, mp, s, g, ov] w w')
set_option maxRecDepth 100000 in
set_option maxHeartbeats 2000000 in
theorem guarded_walk (w : World) (s d g du mp ov sb : Nat) (D : Dk) (L N : Nat) (hc : ∀ w1, Kept [] w w1 → Calls Tryz.prog 19 #[.pointer (some ⟨sb, 0, none⟩)] w1 (Mk1Post s d g du mp ov D L N w1)) (hg : Glob w) (h0 : 0 ∉ [d, du, mp, s, g, ov])
    (hlt : ∀ x ∈ [d, du, mp, s, g, ov], x < w.heap.size) :
    Calls Tryz.prog 18 #[.func (.func 19) #[] #[.pointer (some ⟨sb, 0, none⟩)]] w (GuPost s d g du mp ov D L N w) := by
  have hmf : ∀ (fn : Fn) (first cap : Array Value) (w : World), (Instr.makeFunc fn first cap).run Tryz.prog w = .ok (.func fn first cap) w := fun _ _ _ _ => rfl
  have hgl : 0 < w.heap.size := by
    rcases Nat.eq_zero_or_pos w.heap.size with h0 | h
    · unfold Glob at hg; simp [World.cell?, h0] at hg
    · exact h
  have HG := Lib.hid hg
  have hk1 := (Kept.refl [] w).alloc (.cells #[.int .i64 0] 24)
  have he1 := heap_alloc_new w (.cells #[.int .i64 0] 24)
  have HC := Lib.hid (hc _ hk1)
  clear hc hg
  go_enter_defers Tryz.func18, Tryz.ntmps18
  go_wp2_with fail
  generalize w.alloc (.cells #[.int .i64 0] 24) = w1 at *
  generalize hr : w.heap.size = r at *
  have HR := Lib.hid hr
  have HK1 := Lib.hid hk1
  have HE1 := Lib.hid he1
  have hrn : r ∉ [d, du, mp, s, g, ov] := fun hm => by have := hlt r hm; omega
  clear hr hk1 he1
  refine HC.out.mono ?_
  rintro e w2 (⟨tr, j, f, wk, he, hT⟩ | ⟨rfl, D', base', hd, hs, hf, hk⟩)
  · have he2 := hT.kept.keep HE1.out hrn
    have hk02 : Kept [d, du, mp, s, g, ov] w w2 := (HK1.out.mono (by simp)).trans hT.kept (fun x hx => .inl hx)
    have hg2 : Glob w2 := (cell_kept hk02 (by rw [HR.out]; exact hgl) h0).trans HG.out
    unfold thrownE at he
    subst he
    obtain ⟨D', h1, h2, h3, h4⟩ := hT.disk
    go_wp2
    refine doorF rfl hT hg2 he2 (fun w3 hk3 => .inl ⟨rfl, D', ⟨hk3.keep h1.blk ?_, h1.lft, h1.lif, h1.rng⟩, h2, h3, h4, ?_⟩)
    · intro hm
      simp only [List.mem_cons, List.not_mem_nil, or_false] at hm
      exact hrn (by rw [← hm]; simp)
    · exact hk02.trans hk3 (fun x hx => by
        simp only [List.mem_cons, List.not_mem_nil, or_false] at hx
        exact .inr (by rw [HR.out, hx]; exact Nat.le_refl _))
  · have he2 := hk.keep HE1.out hrn
    have e0 := cell_whole he2 0
    have ef := frozen_whole he2 0
    have el := lt_whole he2
    simp only [List.getElem?_toArray, List.getElem?_cons_zero] at e0
    have HS := Lib.hid (set_whole (i := 0) he2 (.int .i64 0))
    have hk02 : Kept [d, du, mp, s, g, ov] w w2 := (HK1.out.mono (by simp)).trans hk (fun x hx => .inl hx)
    have hks : Kept [r] w2 (w2.setCell ⟨r, 0, none⟩ (.int .i64 0)) := (Kept.refl [r] w2).setCell _ _ (.inl (by simp))
    have hrd : d ≠ r ∧ du ≠ r ∧ mp ≠ r := ⟨fun e => hrn (by rw [← e]; simp), fun e => hrn (by rw [← e]; simp), fun e => hrn (by rw [← e]; simp)⟩
    have HD := Lib.hid (show ∀ w3, Kept [r] w2 w3 → ∃ D' base', DiskAt w3 d du mp base' D' ∧ Sim D D' ∧ Flushed D' (mkIm D.now L N) ∧ Kept [d, du, mp, s, g, ov] w w3 from fun w3 hk3 => ⟨D', base', hd.keptN hf.pend hk3 (by simp; exact hrd.1) (by simp; exact hrd.2.1) (by simp; exact hrd.2.2), hs, hf, hk02.trans hk3 (fun x hx => by
        simp only [List.mem_cons, List.not_mem_nil, or_false] at hx
        exact .inr (by rw [HR.out, hx]; exact Nat.le_refl _))⟩)
    have HKS := Lib.hid hks
    clear hd hs hf hk hk02 he2 hks HC
    go_wp2
    exact doorF_idle rfl HS.out (fun w3 hk3 => .inr ⟨rfl, HD.out w3 (HKS.out.trans hk3 (by simp))⟩)
end Go.Proofs.YtikfphojehgpjaaGreatDoor
/- The sectors behind Mkfs: plain Lean. -/
namespace Go.Proofs.YtikfphojehgpjaaGreatDoor
open Go.RowKit Vl Go.Maps Go.ChangeMaps
set_option linter.unusedVariables false

/-- A sector that is an anchor without data. -/
def Anch (l : List UInt8) (v : Nat) : Prop := ∃ t : UInt8, t.toNat < 3 ∧ l = sealSec t (leB v 8)
theorem Anch.over (old : List UInt8) (v : Nat) : Anch (sealOver old (leB v 8)) v := ⟨_, turnOf_lt _ _, rfl⟩
theorem Anch.num {l : List UInt8} {v : Nat} (h : Anch l v) (hv : v < 2 ^ 63) : anchorN l = v := by
  obtain ⟨t, ht, rfl⟩ := h
  exact anchorN_seal ht hv
theorem Anch.data {l : List UInt8} {v : Nat} (h : Anch l v) : anchorD l = [] := by
  obtain ⟨t, ht, rfl⟩ := h
  exact anchorD_seal
theorem Anch.bodied {l : List UInt8} {v : Nat} (h : Anch l v) : Bodied l := by
  obtain ⟨t, ht, rfl⟩ := h
  refine ⟨sealSec_length _ (by rw [leB_length]; omega), fun b hb => ?_⟩
  rw [openB_seal ht (by rw [leB_length]; omega)] at hb
  rw [← Option.some.inj hb, leB_length]; omega
/-- Behind Format. -/
structure FmtIm (f : Nat → List UInt8) (S L N : Nat) : Prop where
  sup : f 0 = superB S L N
  left : Anch (f 1) 4294967296
  zero : ∀ j, 2 ≤ j → j < S → f j = zsec
theorem fmt_im (f : Nat → List UInt8) (S L N : Nat) (h : 3 + L ≤ S) : FmtIm (F7 f S L N) S L N := by
  have z3 : ∀ j, j < S → F3 f S j = zsec := fun j hj => by
    unfold F3 zrange F1
    split
    · rfl
    · rw [show j = 0 by omega, upd_same]
  have zz : ∀ j, j < S → zrange (F3 f S) 1 (2 + L) j = zsec := fun j hj => by
    unfold zrange
    split
    · rfl
    · exact z3 j hj
  have hs : anchSlot (zrange (F3 f S) 1 (2 + L)) 1 = 0 := by
    unfold anchSlot
    rw [zz 1 (by omega), zz (1 + 1) (by omega), anchorN_zero]
    rfl
  have h5 : F5 f S L = upd (zrange (F3 f S) 1 (2 + L)) 1 (sealOver (zrange (F3 f S) 1 (2 + L) 1) (leB 4294967296 8)) := by
    unfold F5 anchNow
    rw [hs]
  refine ⟨?_, ?_, fun j h2 hj => ?_⟩
  · unfold F7; rw [upd_same]
  · unfold F7
    rw [upd_other _ _ (by omega), h5, upd_same]
    exact Anch.over _ _
  · unfold F7
    rw [upd_other _ _ (by omega), h5, upd_other _ _ (by omega), zz j hj]
theorem FmtIm.right {f : Nat → List UInt8} {S L N : Nat} (h : FmtIm f S L N) (hS : 3 ≤ S) : Bodied (f 2) ∧ anchorN (f 2) = 0 := by
  rw [h.zero 2 (by omega) (by omega)]
  exact ⟨zsec_bodied, anchorN_zero⟩
/-- Behind Open. -/
structure OpIm (f : Nat → List UInt8) (S L N : Nat) : Prop where
  sup : f 0 = superB S L N
  left : Anch (f 1) 4294967296
  right : Anch (f 2) 8589934592
  zero : ∀ j, 3 ≤ j → j < S → f j = zsec
theorem op_im {f : Nat → List UInt8} {S L N : Nat} (h : FmtIm f S L N) (hS : 3 ≤ S) : OpIm (anchNow f 1 8589934592) S L N := by
  have hs : anchSlot f 1 = 1 := by
    unfold anchSlot
    rw [h.left.num (by omega), (h.right hS).2]
    rfl
  have e : anchNow f 1 8589934592 = upd f 2 (sealOver (f 2) (leB 8589934592 8)) := by
    unfold anchNow
    rw [hs]
  rw [e]
  refine ⟨by rw [upd_other _ _ (by omega)]; exact h.sup, by rw [upd_other _ _ (by omega)]; exact h.left, by rw [upd_same]; exact Anch.over _ _, fun j h3 hj => ?_⟩
  rw [upd_other _ _ (by omega), h.zero j (by omega) hj]
/-- Behind Mkfs. -/
structure FinIm (f : Nat → List UInt8) (S L N : Nat) : Prop where
  sup : f 0 = superB S L N
  left : Anch (f 1) 8589934596
  right : Anch (f 2) 8589934592
  ring : ∀ k, k < 4 → ∃ t : UInt8, t.toNat < 3 ∧ f (3 + k) = sealSec t (pieceB 2 k k 4 (part (mkRec (2 + N / 4)) k))
  rest : ∀ k, 4 ≤ k → k < L → f (3 + k) = zsec
  bm : f (3 + L) = bmB (2 + N / 4)
  one : f (3 + L + 1) = oneB
  tbl : f (3 + L + 2) = tblB
  zero : ∀ j, 3 + L + 3 ≤ j → j < S → f j = zsec
theorem laid_hi (f : Nat → List UInt8) (first ep cnt : Nat) (l : List UInt8) (k j : Nat) (hj : first + 2 + k ≤ j) : laid f first ep cnt l k j = f j := by
  induction k with
  | zero => rfl
  | succ k ih => rw [laid, upd_other _ _ (by omega), ih (by omega)]
theorem laid_at (f : Nat → List UInt8) (first ep cnt : Nat) (l : List UInt8) (k i : Nat) (hi : i < k) : ∃ t : UInt8, t.toNat < 3 ∧ laid f first ep cnt l k (first + 2 + i) = sealSec t (pieceB ep i i cnt (part l i)) := by
  induction k with
  | zero => omega
  | succ k ih =>
    rw [laid]
    by_cases h : i = k
    · subst h
      rw [upd_same]
      exact ⟨_, turnOf_lt _ _, rfl⟩
    · rw [upd_other _ _ (by omega)]
      exact ih (by omega)
theorem fin_im {f : Nat → List UInt8} {S L N : Nat} (h : OpIm f S L N) (hL : 18 ≤ L) (hS : 3 + L + 3 ≤ S) : FinIm (mkIm f L N) S L N := by
  obtain ⟨G, hG⟩ : ∃ G, G = laid f 1 2 4 (mkRec (2 + N / 4)) 4 := ⟨_, rfl⟩
  obtain ⟨Hm, hH⟩ : ∃ Hm, Hm = homed G (3 + L) (mkR (2 + N / 4)) mkKs := ⟨_, rfl⟩
  have e0 : Hm = upd (upd (upd G (3 + L + 0) (mkR (2 + N / 4) 0)) (3 + L + 1) (mkR (2 + N / 4) 1)) (3 + L + 2) (mkR (2 + N / 4) 2) := by rw [hH]; rfl
  have lo : ∀ j, j < 3 → Hm j = f j := fun j hj => by
    rw [e0, upd_other _ _ (by omega), upd_other _ _ (by omega), upd_other _ _ (by omega), hG, laid_lo _ _ _ _ _ _ _ (by omega)]
  have hs : anchSlot Hm 1 = 0 := by
    unfold anchSlot
    rw [lo 1 (by omega), lo (1 + 1) (by omega), h.left.num (by omega), h.right.num (by omega)]
    rfl
  have e : mkIm f L N = upd Hm 1 (sealOver (Hm 1) (leB 8589934596 8)) := by
    unfold mkIm
    rw [← hG, ← hH]
    unfold anchNow
    rw [hs]
  rw [e]
  refine ⟨?_, ?_, ?_, fun k hk => ?_, fun k h4 hk => ?_, ?_, ?_, ?_, fun j h6 hj => ?_⟩
  · rw [upd_other _ _ (by omega), lo 0 (by omega)]; exact h.sup
  · rw [upd_same]; exact Anch.over _ _
  · rw [upd_other _ _ (by omega), lo 2 (by omega)]; exact h.right
  · rw [upd_other _ _ (by omega), e0, upd_other _ _ (by omega), upd_other _ _ (by omega), upd_other _ _ (by omega), hG]
    have := laid_at f 1 2 4 (mkRec (2 + N / 4)) 4 k hk
    rw [show 1 + 2 + k = 3 + k by omega] at this
    exact this
  · rw [upd_other _ _ (by omega), e0, upd_other _ _ (by omega), upd_other _ _ (by omega), upd_other _ _ (by omega), hG, laid_hi _ _ _ _ _ _ _ (by omega)]
    exact h.zero _ (by omega) (by omega)
  · rw [upd_other _ _ (by omega), e0, upd_other _ _ (by omega), upd_other _ _ (by omega)]
    exact upd_same _ _ _
  · rw [upd_other _ _ (by omega), e0, upd_other _ _ (by omega)]
    exact upd_same _ _ _
  · rw [upd_other _ _ (by omega), e0]
    exact upd_same _ _ _
  · rw [upd_other _ _ (by omega), e0, upd_other _ _ (by omega), upd_other _ _ (by omega), upd_other _ _ (by omega), hG, laid_hi _ _ _ _ _ _ _ (by omega)]
    exact h.zero _ (by omega) (by omega)
end Go.Proofs.YtikfphojehgpjaaGreatDoor
/- fs: Mkfs. -/
namespace Go.Proofs.YtikfphojehgpjaaGreatDoor
open Go.RowKit Vl Go.Maps Go.ChangeMaps
set_option linter.unusedVariables false

def MkBad (D : Dk) (w : World) (e : Ending) (w' : World) : Prop := e = .returned (.int .i64 (if D.burnt = true then 3 else 22)) ∧ Kept [] w w'
set_option maxRecDepth 100000 in
set_option maxHeartbeats 2000000 in
theorem mkfs_bad (d du mp base : Nat) (D : Dk) (L N : Int) (w : World) (h : DiskAt w d du mp base D) (hL : IntOk L) (hN : IntOk N) (hg : geoOk D.S L N = false) :
    Calls Tryz.prog 10 #[.pointer (some ⟨d, 0, none⟩), .int .i64 L, .int .i64 N] w (MkBad D w) := by
  have HS := Lib.hid (sectors_walk d du mp base D w h)
  have HF := Lib.hid (sformat_bad d du mp base D L N w h hL hN hg)
  clear h hg
  go_enter Tryz.func10, Tryz.ntmps10
  go_wp2_with fail
  refine HS.out.mono ?_
  rintro e w1 ⟨rfl, rfl⟩
  go_wp2_with fail
  refine HF.out.mono ?_
  rintro e w2 ⟨rfl, hk⟩
  cases hb : D.burnt with
  | true =>
    have HEND := Lib.hid (show MkBad D w1 (.returned (.int .i64 3)) w2 from ⟨by rw [hb]; rfl, hk⟩)
    rw [if_pos rfl]
    go_wp2
    go_ret
    exact HEND.out
  | false =>
    have HEND := Lib.hid (show MkBad D w1 (.returned (.int .i64 22)) w2 from ⟨by rw [hb]; rfl, hk⟩)
    rw [if_neg (by decide)]
    go_wp2
    go_ret
    exact HEND.out
def MkfsPost (d du mp : Nat) (D : Dk) (L N : Nat) (w : World) (e : Ending) (w' : World) : Prop :=
  (e = .returned (.int .i64 3) ∧ D.burnt = true ∧ Kept [] w w') ∨
  (e = .returned (.int .i64 3) ∧ ∃ E, DiskW w' d du mp E ∧ E.burnt = true ∧ E.S = D.S ∧ D.life < E.life ∧ Kept [d, du, mp] w w') ∨
  (e = .returned (.int .i64 0) ∧ ∃ base E, DiskAt w' d du mp base E ∧ E.S = D.S ∧ E.rf = D.rf ∧ D.life < E.life ∧ E.pe = 0 ∧ (∀ i, E.pend i = none) ∧ FinIm E.dur E.S L N ∧ Kept [d, du, mp] w w')
theorem stage_open {d du mp base : Nat} {D E : Dk} {L N : Nat} {w w' : World} (h : Stage d du mp D L N w 7 w' base E) (hg : geoOk D.S L N = true) (hl : D.life < 800000) : OpenIn d du mp base E L N w' ∧ FmtIm E.now E.S L N := by
  have hq := h.still rfl
  have hgeo := Geo.of hg
  have g2 := hgeo.s2
  have hi : FmtIm E.now E.S L N := by
    rw [h.now, h.S]
    exact fmt_im _ _ _ _ (by omega)
  have hS := h.S
  refine ⟨⟨h.disk, by rw [h.S]; exact hg, by rw [h.life]; show D.life + 2 < 900000; omega, hq.1, hq.2, hi.sup, ⟨hi.left.bodied, hi.left.num (by omega), hi.left.data⟩, hi.right (by omega), fun j hj => hi.zero _ (by omega) (by omega)⟩, hi⟩
theorem MkIn.still {w w' : World} {s d g du mp ov base sb : Nat} {D : Dk} {L N : Nat} (h : MkIn w s d g du mp ov base sb D L N) (hk : Kept [] w w') : MkIn w' s d g du mp ov base sb D L N :=
  { h with disk := h.disk.kept0 hk, log := h.log.kept hk (by simp), store := h.store.kept hk (by simp), ovl := h.ovl.keep (hk.block ov h.ovl.lt (by simp)), cell := hk.keep h.cell (by simp) }
theorem open_mk {d du mp base : Nat} {E : Dk} {L N : Nat} {w w' w2 : World} {s g ov base' : Nat} {D' : Dk} (ho : OpenIn d du mp base E L N w) (hi : FmtIm E.now E.S L N) (h : Opened d du mp E L N w w' s g ov base' D') (hk : Kept [] w' w2) (hc : w2.heap[w'.heap.size]? = some (.cells #[.pointer (some ⟨s, 0, none⟩)] 54 (0, 0))) :
    MkIn w2 s d g du mp ov base' w'.heap.size D' L N ∧ OpIm D'.now D'.S L N := by
  have hlow := ho.disk.low
  have hbl := ho.disk.base_le
  have hbl' := h.disk.base_le
  obtain ⟨g1, g2⟩ := h.gB
  obtain ⟨s1, s2⟩ := h.sB
  obtain ⟨o1, o2⟩ := h.oB
  obtain ⟨n1, n2, n3⟩ := h.ne
  have hS : D'.S = E.S := h.sim.S
  have hlf : D'.life = E.life + 1 := h.sim.life
  have hgeo := Geo.of ho.geo
  have q2 := hgeo.s2
  have ql := ho.life
  have him : OpIm D'.now D'.S L N := by
    rw [h.flushed.now, hS]
    exact op_im hi (by omega)
  have a1 : d ≠ s ∧ d ≠ g ∧ d ≠ ov ∧ d ≠ w'.heap.size ∧ du ≠ s ∧ du ≠ g ∧ du ≠ ov ∧ du ≠ w'.heap.size ∧ mp ≠ s ∧ mp ≠ g ∧ mp ≠ ov ∧ mp ≠ w'.heap.size ∧ w'.heap.size ≠ s ∧ w'.heap.size ≠ g ∧ w'.heap.size ≠ ov := by
    clear n1 n2 n3
    refine ⟨?_, ?_, ?_, ?_, ?_, ?_, ?_, ?_, ?_, ?_, ?_, ?_, ?_, ?_, ?_⟩ <;> omega
  obtain ⟨b1, b2, b3, b4, b5, b6, b7, b8, b9, b10, b11, b12, b13, b14, b15⟩ := a1
  refine ⟨⟨h.disk.kept0 hk, by rw [hS]; exact hgeo, h.flushed.pend, h.flushed.np, by rw [hlf]; omega, by rw [hlf]; exact h.log.kept hk (by simp), by rw [hS, hlf]; exact h.store.kept hk (by simp), h.ovl.keep (hk.block ov h.ovl.lt (by simp)), hc, fun b hb => ?_, ⟨him.left.bodied, ?_⟩, ⟨him.right.bodied, ?_⟩, ⟨s2, g2, o2⟩, ⟨b1, b2, b3, b4⟩, ⟨b5, b6, b7, b8⟩, ⟨b9, b10, b11, b12⟩, ⟨n1, n2, n3, b13, b14, b15⟩⟩, him⟩
  · clear b1 b2 b3 b4 b5 b6 b7 b8 b9 b10 b11 b12 b13 b14 b15 n1 n2 n3
    exact him.zero _ (by omega) (by omega)
  · rw [him.left.num (by omega)]; omega
  · rw [him.right.num (by omega)]; omega
set_option maxRecDepth 100000 in
set_option maxHeartbeats 2000000 in
theorem mkfs_walk (d du mp base : Nat) (D : Dk) (L N : Nat) (w : World) (h : DiskAt w d du mp base D) (hg : geoOk D.S L N = true) (hp : ∀ i, D.pend i = none) (hnp : D.np = 0) (hlf : D.life < 800000) (hgl : Glob w) (h0 : 0 ∉ [d, du, mp]) :
    Calls Tryz.prog 10 #[.pointer (some ⟨d, 0, none⟩), .int .i64 L, .int .i64 N] w (MkfsPost d du mp D L N w) := by
  have HS := Lib.hid (sectors_walk d du mp base D w h)
  have HF := Lib.hid (sformat_walk d du mp base D L N w h hg hp hnp (by omega))
  have HGL := Lib.hid hgl
  have HG := Lib.hid hg
  have H := Lib.hid h
  have hw0 : 0 < w.heap.size := Nat.lt_of_le_of_lt (Nat.zero_le _) (lt_whole h.blk)
  have hlow := h.low
  have hbl := h.base_le
  clear h hg hp hnp hgl
  go_enter Tryz.func10, Tryz.ntmps10
  go_wp2_with fail
  refine HS.out.mono ?_
  rintro e w1 ⟨rfl, rfl⟩
  go_wp2_with fail
  refine HF.out.mono ?_
  rintro e w2 (⟨rfl, hb, hk⟩ | ⟨rfl, b2, E, hE, hb, hES, hEl, hk⟩ | ⟨rfl, b2, E, hst⟩)
  · have HEND := Lib.hid (show MkfsPost d du mp D L N w1 (.returned (.int .i64 3)) w2 from .inl ⟨rfl, hb, hk⟩)
    go_wp2
    go_ret
    exact HEND.out
  · have HEND := Lib.hid (show MkfsPost d du mp D L N w1 (.returned (.int .i64 3)) w2 from .inr (.inl ⟨rfl, E, hE.weak, hb, hES, hEl, hk⟩))
    clear hE hES hEl hk
    go_wp2
    go_ret
    exact HEND.out
  · obtain ⟨ho, hi⟩ := stage_open hst HG.out hlf
    have HO := Lib.hid ho
    have HI := Lib.hid hi
    have HST := Lib.hid hst
    have HOP := Lib.hid (sopen_walk d du mp b2 E L N w2 ho)
    have hsz := hst.kept.size
    clear ho hi hst HS HF
    go_wp2_with fail
    refine HOP.out.mono ?_
    rintro e w3 (⟨rfl, hd⟩ | ⟨s, g, ov, b3, D3, rfl, hop⟩)
    · have hka := (Kept.refl [] w3).alloc (.cells #[.pointer none] 54)
      obtain ⟨D3, e1, e2, e3, e4, e5⟩ := hd
      have HEND := Lib.hid (show MkfsPost d du mp D L N w1 (.returned (.int .i64 3)) (w3.alloc (.cells #[.pointer none] 54)) from .inr (.inl ⟨rfl, D3, ⟨hka.keep e1.blk (by simp), e1.lft, e1.lif, e1.rng⟩, e2, e3.trans HST.out.S, Nat.lt_of_lt_of_le HST.out.life_lt e4, (HST.out.kept.trans e5 (fun x hx => .inl hx)).trans hka (by simp)⟩))
      clear hka e1 e2 e3 e4 e5 HOP
      go_wp2
      go_ret
      exact HEND.out
    · have hka := (Kept.refl [] w3).alloc (.cells #[.pointer (some ⟨s, 0, none⟩)] 54)
      obtain ⟨hmk, hoi⟩ := open_mk HO.out HI.out hop hka (heap_alloc_new w3 _)
      have hk03 : Kept [d, du, mp] w1 w3 := HST.out.kept.trans hop.kept (fun x hx => .inl hx)
      have hk04 := hk03.trans hka (by simp)
      have hgl4 : Glob (w3.alloc (.cells #[.pointer (some ⟨s, 0, none⟩)] 54)) := (cell_kept hk04 hw0 h0).trans HGL.out
      have hs3 := hk03.size
      have hx : ∀ x ∈ [d, du, mp, s, g, ov], x ≠ 0 ∧ x < w3.heap.size := fun x hx => by
        have q1 := hop.gB; have q2 := hop.sB; have q3 := hop.oB; have q4 := hop.disk.base_le
        simp only [List.mem_cons, List.not_mem_nil, or_false] at hx h0
        rcases hx with rfl | rfl | rfl | rfl | rfl | rfl
        · exact ⟨fun e => h0 (.inl e.symm), by omega⟩
        · exact ⟨fun e => h0 (.inr (.inl e.symm)), by omega⟩
        · exact ⟨fun e => h0 (.inr (.inr e.symm)), by omega⟩
        · exact ⟨by omega, by omega⟩
        · exact ⟨by omega, by omega⟩
        · exact ⟨by omega, by omega⟩
      have HGU := Lib.hid (guarded_walk (w3.alloc (.cells #[.pointer (some ⟨s, 0, none⟩)] 54)) s d g du mp ov w3.heap.size D3 L N (fun w5 hk5 => mk1_walk w5 s d g du mp ov b3 w3.heap.size D3 L N (hmk.still hk5)) hgl4 (fun hm => (hx 0 hm).1 rfl) (fun x hm => by rw [size_alloc]; have := (hx x hm).2; omega))
      have HOI := Lib.hid hoi
      have HOPN := Lib.hid hop
      have HK4 := Lib.hid hk04
      clear hka hmk hk03 hk04 hgl4 hx hoi hop HOP
      go_wp2_with fail
      have hfr : ∀ x ∈ [d, du, mp, s, g, ov], x ∈ [d, du, mp] ∨ w1.heap.size ≤ x := fun x hx => by
        have q1 := HOPN.out.gB.1; have q2 := HOPN.out.sB.1; have q3 := HOPN.out.oB.1
        simp only [List.mem_cons, List.not_mem_nil, or_false] at hx
        rcases hx with rfl | rfl | rfl | rfl | rfl | rfl
        · exact .inl (by simp)
        · exact .inl (by simp)
        · exact .inl (by simp)
        · exact .inr (by omega)
        · exact .inr (by omega)
        · exact .inr (by omega)
      have hl3 : D.life < D3.life := by
        have q1 := HST.out.life_lt
        have q2 : D3.life = E.life + 1 := HOPN.out.sim.life
        omega
      have hS3 : D3.S = D.S := (show D3.S = E.S from HOPN.out.sim.S).trans HST.out.S
      have hr3 : D3.rf = D.rf := (show D3.rf = E.rf from HOPN.out.sim.rf).trans HST.out.rf
      have HFX := Lib.hid (And.intro hfr (And.intro hl3 (And.intro hS3 hr3)))
      clear hfr hl3 hS3 hr3
      refine HGU.out.mono ?_
      rintro e w5 (⟨rfl, D5, q1, q2, q3, q4, hk5⟩ | ⟨rfl, D5, b5, hd5, hs5, hf5, hk5⟩)
      · have HEND := Lib.hid (show MkfsPost d du mp D L N w1 (.returned (.int .i64 3)) w5 from .inr (.inl ⟨rfl, D5, q1, q2, q3.trans HFX.out.2.2.1, Nat.lt_of_lt_of_le HFX.out.2.1 q4, HK4.out.trans hk5 HFX.out.1⟩))
        clear q1 q2 q3 q4 hk5 HGU
        go_wp2
        go_ret
        exact HEND.out
      · have hgeo := Geo.of HG.out
        have g1 := hgeo.l1
        have g2 := hgeo.s2
        have g3 := hgeo.n1
        have hfin : FinIm D5.dur D5.S L N := by
          rw [hf5.dur, hs5.S]
          exact fin_im HOI.out g1 (by rw [HFX.out.2.2.1]; omega)
        have HEND := Lib.hid (show MkfsPost d du mp D L N w1 (.returned (.int .i64 0)) w5 from .inr (.inr ⟨rfl, b5, D5, hd5, hs5.S.trans HFX.out.2.2.1, hs5.rf.trans HFX.out.2.2.2, by rw [hs5.life]; exact HFX.out.2.1, hf5.pe, hf5.pend, hfin, HK4.out.trans hk5 HFX.out.1⟩))
        clear hd5 hs5 hf5 hk5 HGU hfin hgeo
        go_wp2
        go_ret
        exact HEND.out
end Go.Proofs.YtikfphojehgpjaaGreatDoor
/- What a dead disk still tells: Life, Counts. -/
namespace Go.Proofs.YtikfphojehgpjaaGreatDoor
open Go.RowKit Vl Go.Maps Go.ChangeMaps
set_option linter.unusedVariables false
theorem DiskW.kept0 {w w' : World} {d du mp : Nat} {D : Dk} (h : DiskW w d du mp D) (hk : Kept [] w w') : DiskW w' d du mp D := ⟨hk.keep h.blk (by simp), h.lft, h.lif, h.rng⟩
theorem lifeW_walk (d du mp : Nat) (D : Dk) (w : World) (h : DiskW w d du mp D) :
    Calls Tryz.prog 7 #[.pointer (some ⟨d, 0, none⟩)] w fun e w' => e = .returned (.int .i64 D.life) ∧ w' = w := by
  have c4 : w.cell? ⟨d, 4, none⟩ = some (.int .i64 D.life) := cell_whole h.blk 4
  clear h
  go_enter Tryz.func7, Tryz.ntmps7
  go_wp2
  go_ret
  exact ⟨rfl, rfl⟩
set_option maxRecDepth 100000 in
set_option maxHeartbeats 1000000 in
theorem countsW_walk (d du mp : Nat) (D : Dk) (w : World) (h : DiskW w d du mp D) :
    Calls Tryz.prog 11 #[.pointer (some ⟨d, 0, none⟩)] w (CountsPost D w) := by
  have HK1 := Lib.hid ((Kept.refl [] w).alloc (.cells #[.int .i64 0, .int .i64 0, .int .i64 0, .int .i64 0, .int .i64 0] 37))
  have HD1 := h.kept0 HK1.out
  have c5 : (w.alloc (.cells #[.int .i64 0, .int .i64 0, .int .i64 0, .int .i64 0, .int .i64 0] 37)).cell? ⟨d, 5, none⟩ = some (.int .i64 D.rd) := cell_whole HD1.blk 5
  have c6 : (w.alloc (.cells #[.int .i64 0, .int .i64 0, .int .i64 0, .int .i64 0, .int .i64 0] 37)).cell? ⟨d, 6, none⟩ = some (.int .i64 D.wr) := cell_whole HD1.blk 6
  have c7 : (w.alloc (.cells #[.int .i64 0, .int .i64 0, .int .i64 0, .int .i64 0, .int .i64 0] 37)).cell? ⟨d, 7, none⟩ = some (.int .i64 D.fl) := cell_whole HD1.blk 7
  have c8 : (w.alloc (.cells #[.int .i64 0, .int .i64 0, .int .i64 0, .int .i64 0, .int .i64 0] 37)).cell? ⟨d, 8, none⟩ = some (.int .i64 D.rf) := cell_whole HD1.blk 8
  have c9 : (w.alloc (.cells #[.int .i64 0, .int .i64 0, .int .i64 0, .int .i64 0, .int .i64 0] 37)).cell? ⟨d, 9, none⟩ = some (.int .i64 D.pe) := cell_whole HD1.blk 9
  have hlt := lt_whole h.blk
  clear h HD1
  go_enter Tryz.func11, Tryz.ntmps11
  go_wp2
  refine bodyPost_ret (results_cell_row (P := Tryz.prog) (p := 2) (ty := 37) rfl _ _ w.heap.size 37 _ (0, 0) _ rfl (heap_alloc_new w _) Tryz.underlying37 rfl (by kernel_rfl)) rfl ?_
  exact ⟨(Kept.refl [] w).alloc _, rfl⟩
end Go.Proofs.YtikfphojehgpjaaGreatDoor
/- fs: Mkfs on a burnt disk. -/
namespace Go.Proofs.YtikfphojehgpjaaGreatDoor
open Go.RowKit Vl Go.Maps Go.ChangeMaps
set_option linter.unusedVariables false

set_option maxRecDepth 100000 in
set_option maxHeartbeats 2000000 in
theorem sformat_burnt (d du mp base : Nat) (D : Dk) (L N : Int) (w : World) (h : DiskAt w d du mp base D) (hb : D.burnt = true) :
    Calls Tryz.prog 16 #[.pointer (some ⟨d, 0, none⟩), .agg #[.int .i64 D.S, .int .i64 L, .int .i64 N]] w fun e w' => e = .returned (.int .i64 3) ∧ Kept [] w w' := by
  have H := Lib.hid h
  have HB := Lib.hid hb
  clear h hb
  obtain ⟨S, hSe⟩ : ∃ S, S = D.S := ⟨_, rfl⟩
  rw [← hSe]
  clear hSe
  go_enter Tryz.func16, Tryz.ntmps16
  go_upto_region 1 with fail
  have h2 : ((w.alloc (.cells #[.pointer (some ⟨d, 0, none⟩)] 23)).alloc (.cells #[.int .i64 S, .int .i64 L, .int .i64 N] 53)).heap[w.heap.size]? = some (.cells #[.pointer (some ⟨d, 0, none⟩)] 23 (0, 0)) := alloc_whole (heap_alloc_new w _)
  have hk1 := ((Kept.refl [] w).alloc (.cells #[.pointer (some ⟨d, 0, none⟩)] 23)).alloc (.cells #[.int .i64 S, .int .i64 L, .int .i64 N] 53)
  generalize ((w.alloc (.cells #[.pointer (some ⟨d, 0, none⟩)] 23)).alloc (.cells #[.int .i64 S, .int .i64 L, .int .i64 N] 53)) = w1 at *
  generalize w.heap.size = b2 at *
  have HK1 := Lib.hid hk1
  have hbu := burnt_walk d du mp base D w1 (H.out.kept0 hk1)
  rw [HB.out] at hbu
  have HBU := Lib.hid hbu
  have c2 := cell_whole h2 0
  have l2 := lt_whole h2
  simp only [List.getElem?_toArray, List.getElem?_cons_zero] at c2
  clear h2 hk1 hbu
  go_wp2_with fail
  refine HBU.out.mono ?_
  rintro e w2 ⟨rfl, rfl⟩
  go_wp2
  go_ret
  exact ⟨rfl, HK1.out⟩
set_option maxRecDepth 100000 in
set_option maxHeartbeats 2000000 in
theorem mkfs_burnt (d du mp base : Nat) (D : Dk) (L N : Int) (w : World) (h : DiskAt w d du mp base D) (hb : D.burnt = true) :
    Calls Tryz.prog 10 #[.pointer (some ⟨d, 0, none⟩), .int .i64 L, .int .i64 N] w fun e w' => e = .returned (.int .i64 3) ∧ Kept [] w w' := by
  have HS := Lib.hid (sectors_walk d du mp base D w h)
  have HF := Lib.hid (sformat_burnt d du mp base D L N w h hb)
  clear h hb
  go_enter Tryz.func10, Tryz.ntmps10
  go_wp2_with fail
  refine HS.out.mono ?_
  rintro e w1 ⟨rfl, rfl⟩
  go_wp2_with fail
  refine HF.out.mono ?_
  rintro e w2 ⟨rfl, hk⟩
  have HK := Lib.hid hk
  clear hk
  go_wp2
  go_ret
  exact ⟨rfl, HK.out⟩
end Go.Proofs.YtikfphojehgpjaaGreatDoor
