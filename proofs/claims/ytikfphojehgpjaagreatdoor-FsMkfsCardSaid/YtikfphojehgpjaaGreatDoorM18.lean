/- wal: lay. -/
import Derived.Test.YtikfphojehgpjaaGreatDoorM17
import Derived.Deep.RegionHeld3
set_option linter.unusedSimpArgs false
set_option linter.unusedVariables false
namespace Go.Proofs.YtikfphojehgpjaaGreatDoor
open Go.RowKit Vl Go.Maps Go.ChangeMaps
set_option linter.unusedVariables false

theorem make_cap (w : World) (n : Nat) (hn : n ≤ 1000000) : (Instr.makeSlice 22 (.int .i64 0) (.int .i64 n)).run Tryz.prog w = .ok (.slice (some ⟨w.heap.size, 0, none⟩) 0 n) (w.alloc (.cells (bcells (List.replicate n 0)).toArray 5)) := by
  have hi := info5
  cases hq : Tryz.prog.info? 5 with
  | none => rw [hq] at hi; simp at hi
  | some i =>
    rw [hq] at hi
    simp only [Option.map_some, Option.some.injEq, Prod.mk.injEq] at hi
    obtain ⟨hz, hsz, hby⟩ := hi
    have := run_make (P := Tryz.prog) w 22 5 i (.int .u8 0) Tryz.underlying22 hq hz .i64 .i64 0 n (by omega) (by omega) (by rw [hby]; omega) (by omega)
    rw [this, hsz]
    have e1 : madeCells (Value.cells (.int .u8 0)) ((n : Int).toNat * 1) = (bcells (List.replicate n 0)).toArray := by
      rw [Int.toNat_natCast, Nat.mul_one]
      apply Array.ext
      · simp [size_madeCells]
      · intro j h1 h2
        simp [madeCells, Value.cells, bcells, Nat.mod_one]
    rw [e1, Int.toNat_natCast]; rfl
theorem own_cap (w : World) (n : Nat) (hn : n ≤ 1000000) : Vl.Own (w.alloc (.cells (bcells (List.replicate n 0)).toArray 5)) w.heap.size 5 (.slice (some ⟨w.heap.size, 0, none⟩) 0 n) 0 (bcells []) :=
  ⟨rfl, .inr ⟨w.heap.size, n, _, rfl, Nat.le_refl _, heap_alloc_new w _, by omega, by unfold maxLen; omega, by simp [bcells_length], by simp [bcells]⟩⟩
def zbody : List UInt8 := List.replicate 504 0
theorem make_body (w : World) : (Instr.makeSlice 22 (.int .i64 0) (.int .i64 504)).run Tryz.prog w = .ok (.slice (some ⟨w.heap.size, 0, none⟩) 0 504) (w.alloc (.cells (bcells zbody).toArray 5)) := make_cap w 504 (by omega)
theorem own_body (w : World) : Vl.Own (w.alloc (.cells (bcells zbody).toArray 5)) w.heap.size 5 (.slice (some ⟨w.heap.size, 0, none⟩) 0 504) 0 (bcells []) := own_cap w 504 (by omega)
theorem BytesAt.kept {F : List Nat} {w w' : World} {g o : Nat} {l : List UInt8} (h : BytesAt w (some ⟨g, o, none⟩) l) (hk : Kept F w w') (hg : g ∉ F) : BytesAt w' (some ⟨g, o, none⟩) l := fun i hi => by
  obtain ⟨g1, o1, e1, h1, h2⟩ := h i hi
  injection e1 with e2; injection e2 with e3 e4 _; subst e3; subst e4
  exact ⟨g, o, rfl, Nat.lt_of_lt_of_le h1 hk.size, (cell_kept hk h1 (i := o + i) hg).trans h2⟩
theorem Kept.past {F : List Nat} {a w w' : World} {B : Nat} (h : Kept F a w) (hb : Below B w w') (hB : a.heap.size ≤ B) : Kept F a w' :=
  ⟨hb.os.trans h.os, hb.tape.trans h.tape, hb.output.trans h.output, Nat.le_trans h.size hb.size, fun k hk hF => (hb.block k (by omega)).trans (h.block k hk hF)⟩
/-- A sector is written. -/
structure Wrote (D D' : Dk) (i : Nat) (s : List UInt8) : Prop where
  sim : Sim D D'
  now : D'.now = upd D.now i s
  pend : ∀ j, j ≠ i → D'.pend j = D.pend j
  np : D'.np = D.np + 1
def pieceB (ep pos idx cnt : Nat) (l : List UInt8) : List UInt8 := leB ep 4 ++ leB pos 4 ++ leB idx 2 ++ leB cnt 2 ++ l
theorem pieceB_length (ep pos idx cnt : Nat) (l : List UInt8) : (pieceB ep pos idx cnt l).length = 12 + l.length := by
  unfold pieceB
  simp only [List.length_append, leB_length]
def WLayPost (d du mp base : Nat) (D : Dk) (i : Nat) (body : List UInt8) (w : World) (e : Ending) (w' : World) : Prop :=
  (e = .returned (.int .i64 3) ∧ Dead d du mp D w w') ∨
  (e = .returned (.int .i64 0) ∧ ∃ D', DiskAt w' d du mp base D' ∧ Wrote D D' i (sealOver (D.now i) body) ∧ Kept [d, mp] w w')
set_option maxRecDepth 100000 in
set_option maxHeartbeats 2000000 in
theorem layP_walk (d du mp base g : Nat) (D : Dk) (L : Lg) (w : World) (h : DiskAt w d du mp base D) (hL : LogAt w g d L) (hg : g ≠ d) (hgm : g ≠ mp) (ep pos idx cnt : Nat) (l : List UInt8) (ga oa c : Nat) (hl : BytesAt w (some ⟨ga, oa, none⟩) l) (hll : 0 < l.length ∧ l.length ≤ 492)
    (hep : ep ≤ 1073741824) (hpos : pos ≤ 1073741824) (hidx : idx ≤ 100) (hcnt : cnt ≤ 100) (hS : L.first + 2 + L.n ≤ D.S) (i : Nat) (hi : i = L.first + 2 + pos % L.n) (hp : D.pend i = none) (hnp : D.np < 60000) :
    Calls Tryz.prog 168 #[.pointer (some ⟨g, 0, none⟩), .agg #[.int .i64 ep, .int .i64 pos, .int .i64 idx, .int .i64 cnt, .slice (some ⟨ga, oa, none⟩) l.length c]] w (WLayPost d du mp base D i (pieceB ep pos idx cnt l) w) := by
  obtain ⟨i0, hi5, hz0, hz1, hz2⟩ := info_parts info5
  have HD := Lib.hid h
  have HL := Lib.hid hL
  have HB := Lib.hid hl
  have hiS : i < D.S := by have := Nat.mod_lt pos (show 0 < L.n by have := hL.n; omega); omega
  have HI := Lib.hid hi
  have hml := h.low
  have hbs := h.base_le
  have hlt := lt_whole hL.blk
  have hdl := lt_whole h.blk
  obtain ⟨gx, ox, ex, hgx, _⟩ := hl 0 (by omega)
  injection ex with ex1; injection ex1 with ex2 ex3 _; subst ex2; subst ex3
  clear h hL hl hi
  go_enter Tryz.func168, Tryz.ntmps168
  go_upto_region 1 with fail
  generalize hw1 : w.alloc (.cells #[.int .i64 ep, .int .i64 pos, .int .i64 idx, .int .i64 cnt, .slice (some ⟨ga, oa, none⟩) l.length c] 252) = w1 at *
  have hbx : w1.heap[w.heap.size]? = some (.cells #[.int .i64 ep, .int .i64 pos, .int .i64 idx, .int .i64 cnt, .slice (some ⟨ga, oa, none⟩) l.length c] 252 (0, 0)) := by rw [← hw1]; exact heap_alloc_new w _
  have hk1 : Kept [] w w1 := by rw [← hw1]; exact (Kept.refl [] w).alloc _
  have hs1 : w1.heap.size = w.heap.size + 1 := by rw [← hw1, size_alloc]
  have hmk := make_body w1
  have ho1 := own_body w1
  have hk2 := hk1.alloc (.cells (bcells zbody).toArray 5)
  have hbx2 := alloc_whole (o' := .cells (bcells zbody).toArray 5) hbx
  have hs2 := size_alloc w1 (.cells (bcells zbody).toArray 5)
  go_upto_region 2 with fail
  have HO1 := Lib.hid ho1
  have HK2 := Lib.hid hk2
  have HX2 := Lib.hid hbx2
  have hz2 : (bcells zbody).toArray = (bcells zbody).toArray := rfl
  generalize w1.alloc (.cells (bcells zbody).toArray 5) = w2 at *
  rw [hs1] at hs2 HO1
  clear hmk ho1 hk2 hbx2 hbx hk1 hz2
  generalize hB0 : w.heap.size = p at *
  have HP0 := Lib.hid hB0
  obtain ⟨q0, q1, q2, q3, q4⟩ : w2.cell? ⟨p, 0, none⟩ = some (.int .i64 ep) ∧ w2.cell? ⟨p, 1, none⟩ = some (.int .i64 pos) ∧ w2.cell? ⟨p, 2, none⟩ = some (.int .i64 idx) ∧ w2.cell? ⟨p, 3, none⟩ = some (.int .i64 cnt) ∧ w2.cell? ⟨p, 4, none⟩ = some (.slice (some ⟨ga, oa, none⟩) l.length c) := ⟨cell_whole HX2.out 0, cell_whole HX2.out 1, cell_whole HX2.out 2, cell_whole HX2.out 3, cell_whole HX2.out 4⟩
  have hpl := lt_whole HX2.out
  go_wp2_with fail
  refine (put_walk _ _ ep 4 (p + 1) w2 HO1.out (by omega) hep (by omega) (by first | (simp; done) | simp [leB_length])).mono ?_
  rintro e w3 ⟨v3, rfl, ho3, hb3⟩
  have HO3 := Lib.hid ho3
  have HK3 := Lib.hid (HK2.out.past hb3 (by omega))
  have HX3 := Lib.hid ((hb3.block p (by omega)).trans HX2.out)
  have hz3 := hb3.size
  clear ho3 hb3 q0 q1 q2 q3 q4 hpl
  obtain ⟨q0, q1, q2, q3, q4⟩ : w3.cell? ⟨p, 0, none⟩ = some (.int .i64 ep) ∧ w3.cell? ⟨p, 1, none⟩ = some (.int .i64 pos) ∧ w3.cell? ⟨p, 2, none⟩ = some (.int .i64 idx) ∧ w3.cell? ⟨p, 3, none⟩ = some (.int .i64 cnt) ∧ w3.cell? ⟨p, 4, none⟩ = some (.slice (some ⟨ga, oa, none⟩) l.length c) := ⟨cell_whole HX3.out 0, cell_whole HX3.out 1, cell_whole HX3.out 2, cell_whole HX3.out 3, cell_whole HX3.out 4⟩
  have hpl := lt_whole HX3.out
  go_wp2_with fail
  refine (put_walk _ _ pos 4 (p + 1) w3 HO3.out (by omega) hpos (by omega) (by first | (simp; done) | simp [leB_length])).mono ?_
  rintro e w4 ⟨v4, rfl, ho4, hb4⟩
  have HO4 := Lib.hid ho4
  have HK4 := Lib.hid (HK3.out.past hb4 (by omega))
  have HX4 := Lib.hid ((hb4.block p (by omega)).trans HX3.out)
  have hz4 := hb4.size
  clear ho4 hb4 q0 q1 q2 q3 q4 hpl
  obtain ⟨q0, q1, q2, q3, q4⟩ : w4.cell? ⟨p, 0, none⟩ = some (.int .i64 ep) ∧ w4.cell? ⟨p, 1, none⟩ = some (.int .i64 pos) ∧ w4.cell? ⟨p, 2, none⟩ = some (.int .i64 idx) ∧ w4.cell? ⟨p, 3, none⟩ = some (.int .i64 cnt) ∧ w4.cell? ⟨p, 4, none⟩ = some (.slice (some ⟨ga, oa, none⟩) l.length c) := ⟨cell_whole HX4.out 0, cell_whole HX4.out 1, cell_whole HX4.out 2, cell_whole HX4.out 3, cell_whole HX4.out 4⟩
  have hpl := lt_whole HX4.out
  go_wp2_with fail
  refine (put_walk _ _ idx 2 (p + 1) w4 HO4.out (by omega) (by omega) (by omega) (by first | (simp; done) | simp [leB_length])).mono ?_
  rintro e w5 ⟨v5, rfl, ho5, hb5⟩
  have HO5 := Lib.hid ho5
  have HK5 := Lib.hid (HK4.out.past hb5 (by omega))
  have HX5 := Lib.hid ((hb5.block p (by omega)).trans HX4.out)
  have hz5 := hb5.size
  clear ho5 hb5 q0 q1 q2 q3 q4 hpl
  obtain ⟨q0, q1, q2, q3, q4⟩ : w5.cell? ⟨p, 0, none⟩ = some (.int .i64 ep) ∧ w5.cell? ⟨p, 1, none⟩ = some (.int .i64 pos) ∧ w5.cell? ⟨p, 2, none⟩ = some (.int .i64 idx) ∧ w5.cell? ⟨p, 3, none⟩ = some (.int .i64 cnt) ∧ w5.cell? ⟨p, 4, none⟩ = some (.slice (some ⟨ga, oa, none⟩) l.length c) := ⟨cell_whole HX5.out 0, cell_whole HX5.out 1, cell_whole HX5.out 2, cell_whole HX5.out 3, cell_whole HX5.out 4⟩
  have hpl := lt_whole HX5.out
  go_wp2_with fail
  refine (put_walk _ _ cnt 2 (p + 1) w5 HO5.out (by omega) (by omega) (by omega) (by first | (simp; done) | simp [leB_length])).mono ?_
  rintro e w6 ⟨v6, rfl, ho6, hb6⟩
  have HO6 := Lib.hid ho6
  have HK6 := Lib.hid (HK5.out.past hb6 (by omega))
  have HX6 := Lib.hid ((hb6.block p (by omega)).trans HX5.out)
  have hz6 := hb6.size
  clear ho6 hb6 q0 q1 q2 q3 q4 hpl
  obtain ⟨q0, q1, q2, q3, q4⟩ : w6.cell? ⟨p, 0, none⟩ = some (.int .i64 ep) ∧ w6.cell? ⟨p, 1, none⟩ = some (.int .i64 pos) ∧ w6.cell? ⟨p, 2, none⟩ = some (.int .i64 idx) ∧ w6.cell? ⟨p, 3, none⟩ = some (.int .i64 cnt) ∧ w6.cell? ⟨p, 4, none⟩ = some (.slice (some ⟨ga, oa, none⟩) l.length c) := ⟨cell_whole HX6.out 0, cell_whole HX6.out 1, cell_whole HX6.out 2, cell_whole HX6.out 3, cell_whole HX6.out 4⟩
  have hpl := lt_whole HX6.out
  rw [List.nil_append] at HO6
  have HPB : Hid (leB ep 4 ++ leB pos 4 ++ leB idx 2 ++ leB cnt 2 ++ l = pieceB ep pos idx cnt l) := Lib.hid rfl
  have hprl : (leB ep 4 ++ leB pos 4 ++ leB idx 2 ++ leB cnt 2).length = 12 := by simp only [List.length_append, leB_length]
  obtain ⟨a6, c6, hv6⟩ := HO6.out.form
  rw [hprl] at hv6
  generalize leB ep 4 ++ leB pos 4 ++ leB idx 2 ++ leB cnt 2 = pre at *
  have HPL := Lib.hid hprl
  have HB6 := Lib.hid (HB.out.below (HK6.out.below))
  have ho6 := HO6.out
  rw [hprl] at ho6
  have HO6' := Lib.hid ho6
  have hr6 := HB6.out.range
  subst hv6
  clear ho6 HO6 HO3 HO4 HO5 HO1 HK2 HK3 HK4 HK5 HX2 HX3 HX4 HX5 hprl
  go_wp2_with (at_builtin; refine wpList_append_own _ rfl _ _ 22 rfl (p + 1) 5 i0 (.int .u8 0) 1 1 Tryz.underlying22 hi5 hz0 hz1 hz2 rfl (by decide) _ 12 _ rfl HO6'.out ⟨ga, oa, none⟩ l.length c (bcells l) rfl (by rw [bcells_length]; omega) (fun j u hj => HB6.out.cells hj) (bcells_oneCell _) (by unfold maxLen; omega) (by omega) (by omega) ?_)
  intro v7 w7 h7 hg7 _
  rw [← HPL.out] at h7
  obtain ⟨ho7, hb7⟩ := own_pushed (w := w6) (B := p + 1) (l := pre) (m := l) (by omega) (by rw [HPL.out]; exact HO6'.out) h7 hg7
  rw [HPB.out] at ho7
  obtain ⟨a7, c7, hv7⟩ := ho7.form
  rw [pieceB_length] at hv7
  subst hv7
  rw [pieceB_length] at ho7
  obtain ⟨_, hB7⟩ := BytesAt.of_own ho7
  have hbl := pieceB_length ep pos idx cnt l
  obtain ⟨gb, ob, rfl⟩ : ∃ gb ob, a7 = some ⟨gb, ob, none⟩ := by
    obtain ⟨gb, ob, hh, _⟩ := hB7 0 (by rw [hbl]; omega)
    exact ⟨gb, ob, hh⟩
  obtain ⟨hgb, _⟩ := ho7.block (k := gb) rfl
  have HBD := Lib.hid hB7
  have HBL := Lib.hid hbl
  have HK7 := Lib.hid (HK6.out.past hb7 (by omega))
  have HX7 := Lib.hid ((hb7.block p (by omega)).trans HX6.out)
  have hd7 := HD.out.kept0 HK7.out
  have hl7 := HL.out.kept HK7.out (by simp)
  clear h7 hg7 ho7 hb7 HO6' hr6 q0 q1 q2 q3 q4 hB7 hbl HX6 HK6 HB6
  go_upto_region 7 with fail
  have HD7 := Lib.hid hd7
  have HL7 := Lib.hid hl7
  have d0 := hl7.cells.1
  have q1 := cell_whole HX7.out 1
  simp only [List.getElem?_toArray, List.getElem?_cons_succ, List.getElem?_cons_zero] at q1
  have hlr := lt_whole hl7.blk
  have hpr := lt_whole HX7.out
  have hk0 : Kept [] w7 w7.drew := (Kept.refl [] w7).drew
  have e1 : w7.drew.cell? ⟨p, 1, none⟩ = some (.int .i64 pos) := q1
  have e0 : w7.drew.cell? ⟨g, 0, none⟩ = some (.pointer (some ⟨d, 0, none⟩)) := d0
  have HAT : Hid (∀ w', Kept [] w7 w' → Calls Tryz.prog 147 #[.pointer (some ⟨g, 0, none⟩), .int .i64 pos] w' fun e w'' => e = .returned (.int .i64 i) ∧ Kept [] w7 w'' ∧ Kept [d] w7 w'' ∧ w''.cell? ⟨g, 0, none⟩ = some (.pointer (some ⟨d, 0, none⟩)) ∧ w''.cell? ⟨p, 1, none⟩ = some (.int .i64 pos)) := Lib.hid (fun w' hk' => (at_walk g d L w' (HL7.out.kept hk' (by simp)) pos (by omega)).mono (by
    rintro e w'' ⟨rfl, m, rfl⟩
    exact ⟨by rw [HI.out], hk'.drewN m, (hk'.drewN m).mono (by simp), ((HL7.out.kept (hk'.drewN m) (by simp)).cells).1, cell_whole ((hk'.drewN m).keep HX7.out (by simp)) 1⟩))
  have HRD := Lib.hid (fun w' (hk' : Kept [] w7 w') => read_walk d du mp base D w' (HD7.out.kept0 hk') i hiS)
  clear hd7 hl7 hs1 hs2 hz3 hz4 hz5 hz6
  cases hb : D.burnt with
  | true =>
    have HR2 : Hid (∀ w', Kept [] w7 w' → Calls Tryz.prog 40 #[.pointer (some ⟨d, 0, none⟩), .int .i64 i] w' fun e w'' => e = .returned (.tuple #[.slice none 0 0, .int .i64 3]) ∧ Kept [] w7 w'' ∧ w''.cell? ⟨g, 0, none⟩ = some (.pointer (some ⟨d, 0, none⟩)) ∧ w''.cell? ⟨p, 1, none⟩ = some (.int .i64 pos)) := Lib.hid (fun w' hk' => (HRD.out w' hk').mono (by
      rintro e w'' (⟨_, rfl, hk⟩ | ⟨hb2, _⟩)
      · exact ⟨rfl, hk'.trans hk (by simp), ((HL7.out.kept (hk'.trans hk (by simp)) (by simp)).cells).1, cell_whole ((hk'.trans hk (by simp)).keep HX7.out (by simp)) 1⟩
      · rw [hb] at hb2; cases hb2))
    go_wp2_with fail
    go_region_held3 (fun w' => w'.cell? ⟨g, 0, none⟩ = some (.pointer (some ⟨d, 0, none⟩)) ∧ w'.cell? ⟨p, 1, none⟩ = some (.int .i64 pos) ∧ Kept [] w7 w')
      (first
        | (with_reducible exact ⟨e0, e1, hk0⟩)
        | (with_reducible exact ⟨hcw, hcv, hkw⟩)
        | (with_reducible exact ⟨hcy, hcz, hKy⟩))
      ((first
        | (go_simp; go_at_call 147; (with_reducible refine (HAT.out _ hk0).mono ?_); rintro e w' ⟨rfl, hkw, hkd, hcw, hcv⟩)
        | (go_simp; go_at_call 40; (with_reducible refine (HR2.out _ hkw).mono ?_); rintro e w'' ⟨rfl, hKy, hcy, hcz⟩)))
    have HEND := Lib.hid (show WLayPost d du mp base D i (pieceB ep pos idx cnt l) w (.returned (.int .i64 3)) w'' from .inl ⟨rfl, Dead.now (HD7.out.kept0 hKy) hb rfl (Nat.le_refl _) (HK7.out.trans hKy (by simp)) (by simp)⟩)
    clear hkw hkd hcw hKy hcy hcv hcz
    go_wp2
    go_ret
    exact HEND.out
  | false =>
    have HR2 : Hid (∀ w', Kept [] w7 w' → Calls Tryz.prog 40 #[.pointer (some ⟨d, 0, none⟩), .int .i64 i] w' fun e w'' => ∃ q, w7.heap.size ≤ q ∧ e = .returned (.tuple #[.slice (some ⟨q, 0, none⟩) 512 512, .int .i64 0]) ∧ Bytes w'' q (D.now i) ∧ DiskAt w'' d du mp base D.read ∧ Kept [d] w7 w'' ∧ w''.cell? ⟨g, 0, none⟩ = some (.pointer (some ⟨d, 0, none⟩)) ∧ w''.cell? ⟨p, 1, none⟩ = some (.int .i64 pos)) := Lib.hid (fun w' hk' => (HRD.out w' hk').mono (by
      rintro e w'' (⟨hb2, _⟩ | ⟨_, q, hq, rfl, hB, hD, hK⟩)
      · rw [hb] at hb2; cases hb2
      · have hk2 := (hk'.mono (G := [d]) (by simp)).trans hK (by simp)
        exact ⟨q, Nat.le_trans hk'.size hq, rfl, hB, hD, hk2, ((HL7.out.kept hk2 (by simpa using hg)).cells).1, cell_whole (hk2.keep HX7.out (by simp; omega)) 1⟩))
    have hk1 : Kept [d] w7 w7.drew := (Kept.refl [d] w7).drew
    go_wp2_with fail
    go_region_held3 (fun w' => w'.cell? ⟨g, 0, none⟩ = some (.pointer (some ⟨d, 0, none⟩)) ∧ w'.cell? ⟨p, 1, none⟩ = some (.int .i64 pos) ∧ Kept [d] w7 w')
      (first
        | (with_reducible exact ⟨e0, e1, hk1⟩)
        | (with_reducible exact ⟨hcw, hcv, hkd⟩)
        | (with_reducible exact ⟨hcy, hcz, hKy⟩))
      ((first
        | (go_simp; go_at_call 147; (with_reducible refine (HAT.out _ hk0).mono ?_); rintro e w' ⟨rfl, hkw, hkd, hcw, hcv⟩)
        | (go_simp; go_at_call 40; (with_reducible refine (HR2.out _ hkw).mono ?_); rintro e w'' ⟨q, hq, rfl, hBq, hDy, hKy, hcy, hcz⟩)))
    have HSL := Lib.hid (seal_walk (D.now i) (pieceB ep pos idx cnt l) q 0 512 gb ob c7 w'' hBq.at (HD.out.now_len hiS) (HBD.out.kept hKy (by simp; omega)) (by rw [HBL.out]; omega))
    have HDY := Lib.hid hDy
    have HKY := Lib.hid hKy
    have HX8 := Lib.hid (hKy.keep HX7.out (by simp; omega))
    have HL8 := Lib.hid (HL7.out.kept hKy (by simpa using hg))
    clear hkw hkd hcw hcv hBq hq hDy hKy hcy hcz hk0 hk1 e0 e1 HAT HRD HR2 HX7 d0 q1 hlr hpr
    go_wp2_with fail
    refine HSL.out.mono ?_
    rintro e w9 ⟨hk9, q9, hq9, rfl, hB9⟩
    have HD9 := Lib.hid (HDY.out.kept0 hk9)
    have HL9 := Lib.hid (HL8.out.kept hk9 (by simp))
    have HX9 := Lib.hid (hk9.keep HX8.out (by simp))
    have HK9 := Lib.hid ((HK7.out.mono (G := [d]) (by simp)).trans (HKY.out.trans hk9 (by simp)) (by simp))
    have HB9 := Lib.hid hB9.at
    clear hk9 hB9 HSL HDY HKY HX8 HL8 hq9
    have d0 := HL9.out.cells.1
    have q1 := cell_whole HX9.out 1
    simp only [List.getElem?_toArray, List.getElem?_cons_succ, List.getElem?_cons_zero] at q1
    have hlr := lt_whole HL9.out.blk
    have hpr := lt_whole HX9.out
    go_wp2_with fail
    have hk0 : Kept [] w9 w9.drew := (Kept.refl [] w9).drew
    have hk1 : Kept [d, mp] w9 w9.drew := (Kept.refl [d, mp] w9).drew
    have e0 : w9.drew.cell? ⟨g, 0, none⟩ = some (.pointer (some ⟨d, 0, none⟩)) := d0
    have e1 : w9.drew.cell? ⟨p, 1, none⟩ = some (.int .i64 pos) := q1
    have HAT : Hid (∀ w', Kept [] w9 w' → Calls Tryz.prog 147 #[.pointer (some ⟨g, 0, none⟩), .int .i64 pos] w' fun e w'' => e = .returned (.int .i64 i) ∧ Kept [] w9 w'' ∧ Kept [d, mp] w9 w'' ∧ w''.cell? ⟨g, 0, none⟩ = some (.pointer (some ⟨d, 0, none⟩)) ∧ w''.cell? ⟨p, 1, none⟩ = some (.int .i64 pos)) := Lib.hid (fun w' hk' => (at_walk g d L w' (HL9.out.kept hk' (by simp)) pos (by omega)).mono (by
      rintro e w'' ⟨rfl, m, rfl⟩
      exact ⟨by rw [HI.out], hk'.drewN m, (hk'.drewN m).mono (by simp), ((HL9.out.kept (hk'.drewN m) (by simp)).cells).1, cell_whole ((hk'.drewN m).keep HX9.out (by simp)) 1⟩))
    have HWR : Hid (∀ w', Kept [] w9 w' → Calls Tryz.prog 32 #[.pointer (some ⟨d, 0, none⟩), .int .i64 i, .slice (some ⟨q9, 0, none⟩) 512 512] w' fun e w'' => e = .returned (.int .i64 0) ∧ DiskAt w'' d du mp base (D.read.write i (sealOver (D.now i) (pieceB ep pos idx cnt l))) ∧ Kept [d, mp] w9 w'' ∧ w''.cell? ⟨g, 0, none⟩ = some (.pointer (some ⟨d, 0, none⟩)) ∧ w''.cell? ⟨p, 1, none⟩ = some (.int .i64 pos)) := Lib.hid (fun w' hk' => (write_walk d du mp base D.read w' (HD9.out.kept0 hk') i hiS _ _ 512 (HB9.out.kept hk' (by simp)) (sealOver_length _ (by rw [HBL.out]; omega)) hp hnp).mono (by
      rintro e w'' (⟨hb2, _⟩ | ⟨_, rfl, hD, hK⟩)
      · have : D.burnt = true := hb2
        rw [hb] at this; cases this
      · have hk2 := (hk'.mono (G := [d, mp]) (by simp)).trans hK (by simp)
        exact ⟨rfl, hD, hk2, ((HL9.out.kept hk2 (by simp; exact ⟨hg, hgm⟩)).cells).1, cell_whole (hk2.keep HX9.out (by simp; omega)) 1⟩))
    go_region_held3 (fun w' => w'.cell? ⟨g, 0, none⟩ = some (.pointer (some ⟨d, 0, none⟩)) ∧ w'.cell? ⟨p, 1, none⟩ = some (.int .i64 pos) ∧ Kept [d, mp] w9 w')
      (first
        | (with_reducible exact ⟨e0, e1, hk1⟩)
        | (with_reducible exact ⟨hcw, hcv, hkd⟩)
        | (with_reducible exact ⟨hcy, hcz, hKy⟩))
      ((first
        | (go_simp; go_at_call 147; (with_reducible refine (HAT.out _ hk0).mono ?_); rintro e w' ⟨rfl, hkw, hkd, hcw, hcv⟩)
        | (go_simp; go_at_call 32; (with_reducible refine (HWR.out _ hkw).mono ?_); rintro e w'' ⟨rfl, hDy, hKy, hcy, hcz⟩)))
    have HEND := Lib.hid (show WLayPost d du mp base D i (pieceB ep pos idx cnt l) w (.returned (.int .i64 0)) w'' from .inr ⟨rfl, _, hDy, ⟨⟨rfl, rfl, rfl⟩, now_write D.read i _, fun j hj => upd_other _ _ hj, rfl⟩, (HK9.out.mono (G := [d, mp]) (by simp)).trans hKy (by simp)⟩)
    clear hkw hkd hcw hKy hcy hcv hcz hDy
    go_wp2
    go_ret
    exact HEND.out
end Go.Proofs.YtikfphojehgpjaaGreatDoor
/- wal: Append, to a log whose head and tail are 0. -/
namespace Go.Proofs.YtikfphojehgpjaaGreatDoor
open Go.RowKit Vl Go.Maps Go.ChangeMaps
set_option linter.unusedVariables false

def part (l : List UInt8) (k : Nat) : List UInt8 := (l.drop (492 * k)).take 492
def laid (f : Nat → List UInt8) (first ep cnt : Nat) (l : List UInt8) : Nat → Nat → List UInt8
  | 0 => f
  | k + 1 => upd (laid f first ep cnt l k) (first + 2 + k) (sealOver (laid f first ep cnt l k (first + 2 + k)) (pieceB ep k k cnt (part l k)))
theorem part_length (l : List UInt8) (k : Nat) : (part l k).length = min 492 (l.length - 492 * k) := by unfold part; rw [List.length_take, List.length_drop]
theorem BytesAt.sub {w : World} {g o : Nat} {l : List UInt8} (h : BytesAt w (some ⟨g, o, none⟩) l) (a n : Nat) : BytesAt w (some ⟨g, o + a, none⟩) ((l.drop a).take n) := fun i hi => by
  rw [List.length_take, List.length_drop] at hi
  obtain ⟨g1, o1, e1, h1, h2⟩ := h (a + i) (by omega)
  injection e1 with e2; injection e2 with e3 e4 _; subst e3; subst e4
  refine ⟨g, o + a, rfl, h1, ?_⟩
  rw [Nat.add_assoc, h2, List.getElem_take, List.getElem_drop]
def AppendPost (d du mp base g : Nat) (D : Dk) (L : Lg) (l : List UInt8) (w : World) (e : Ending) (w' : World) : Prop :=
  (e = .returned (.int .i64 3) ∧ Dead d du mp D w w') ∨
  (e = .returned (.int .i64 0) ∧ ∃ D', DiskAt w' d du mp base D' ∧ Sim D D' ∧ D'.now = laid D.now L.first L.epoch ((l.length + 491) / 492) l ((l.length + 491) / 492) ∧
    (∀ j, (j < L.first + 2 ∨ L.first + 2 + (l.length + 491) / 492 ≤ j) → D'.pend j = D.pend j) ∧ D'.np = D.np + (l.length + 491) / 492 ∧ LogAt w' g d { L with head := (l.length + 491) / 492 } ∧ Kept [d, mp, g] w w')
set_option maxRecDepth 100000 in
set_option maxHeartbeats 2000000 in
theorem append_walk (d du mp base g : Nat) (D : Dk) (L : Lg) (w : World) (h : DiskAt w d du mp base D) (hL : LogAt w g d L) (hgd : g ≠ d ∧ g ≠ du ∧ g ≠ mp ∧ g < base) (hlf : L.life = D.life) (hst : L.started = true) (hh : L.head = 0) (ht : L.tail = 0)
    (l : List UInt8) (ga oa c : Nat) (hl : BytesAt w (some ⟨ga, oa, none⟩) l) (hll : 0 < l.length ∧ l.length ≤ 8364) (hlc : l.length ≤ c) (hga : ga ≠ d ∧ ga ≠ mp ∧ ga ≠ g) (hfit : (l.length + 491) / 492 ≤ L.n) (hS : L.first + 2 + L.n ≤ D.S)
    (hp : ∀ k, k < L.n → D.pend (L.first + 2 + k) = none) (hnp : D.np < 50000) :
    Calls Tryz.prog 120 #[.pointer (some ⟨g, 0, none⟩), .slice (some ⟨ga, oa, none⟩) l.length c] w (AppendPost d du mp base g D L l w) := by
  have HR := Lib.hid (ready_walk w h hL hlf hst)
  have HD := Lib.hid h
  have HL := Lib.hid hL
  have HB := Lib.hid hl
  have HP := Lib.hid hp
  have hN := hL.n
  have HH := Lib.hid hh
  have HT := Lib.hid ht
  have hlt := lt_whole hL.blk
  clear h hL hl hp hh ht
  cases hb : D.burnt with
  | true =>
    rw [hb] at HR
    go_enter Tryz.func120, Tryz.ntmps120
    go_wp2_with fail
    refine HR.out.mono ?_
    rintro e w' ⟨rfl, n, rfl⟩
    simp only [if_true]
    go_wp2
    go_ret
    exact .inl ⟨rfl, Dead.now (HD.out.kept0 ((Kept.refl [] w).drewN n)) hb rfl (Nat.le_refl _) ((Kept.refl [] w).drewN n) (by simp)⟩
  | false =>
    rw [hb] at HR
    obtain ⟨cnt, hcnt⟩ : ∃ cnt, cnt = (l.length + 491) / 492 := ⟨_, rfl⟩
    have HC := Lib.hid hcnt
    have hcq : ((l.length : Int) + 492 - 1).tdiv 492 = (cnt : Int) := by rw [hcnt, Int.tdiv_eq_ediv_of_nonneg (by omega)]; omega
    have hc1 : 1 ≤ cnt ∧ cnt ≤ 17 := by omega
    rw [← hcnt] at hfit
    clear hcnt
    go_enter Tryz.func120, Tryz.ntmps120
    go_wp2_with fail
    refine HR.out.mono ?_
    rintro e w1 ⟨rfl, n1, hw1⟩
    simp only [Bool.false_eq_true, if_false]
    have hk1 : Kept [] w w1 := by rw [hw1]; exact (Kept.refl [] w).drewN n1
    have hf1 := free_walk (d := d) (g := g) w1 (HL.out.kept hk1 (by simp))
    rw [HH.out, HT.out] at hf1
    have HF1 := Lib.hid hf1
    have HK1 := Lib.hid hk1
    have hl1 := HL.out.kept hk1 (by simp)
    obtain ⟨_, _, _, _, _, _, _, c7, _⟩ := hl1.cells
    rw [HH.out] at c7
    have hlt1 := lt_whole hl1.blk
    clear hk1 hf1 hl1 hw1
    go_wp2_with fail
    refine HF1.out.mono ?_
    rintro e w2 ⟨rfl, n2, hw2⟩
    have hk2 : Kept [] w w2 := by rw [hw2]; exact HK1.out.drewN n2
    have HK2 := Lib.hid hk2
    have HD2 := Lib.hid (HD.out.kept0 hk2)
    have HL2 := Lib.hid (HL.out.kept hk2 (by simp))
    clear hw2 hk2 c7 HF1 HK1 hlt1
    generalize hgn : L.n = nn at *
    have HGN := Lib.hid hgn
    clear hgn
    have hdec : decide (nn < cnt) = false := decide_eq_false (by omega)
    go_wp2_with fail
    go_loopw [42, 7, 8, 9] (fun v42 _ _ _ wr => ∃ (k : Nat) (E : Dk), k ≤ cnt ∧ v42 = .int .i64 k ∧ DiskAt wr d du mp base E ∧ Sim D E ∧ E.now = laid D.now L.first L.epoch cnt l k ∧ (∀ j, (j < L.first + 2 ∨ L.first + 2 + k ≤ j) → E.pend j = D.pend j) ∧ E.np = D.np + k ∧ Kept [d, mp] w wr) (fun v42 _ _ _ _ => cnt - (intOf v42).toNat)
    case atStart => exact ⟨0, D, by omega, rfl, HD2.out, Sim.refl _, rfl, fun _ _ => rfl, rfl, HK2.out.mono (by simp)⟩
    case round =>
      obtain ⟨k, E, hk, rfl, hd, hsim, hnow, hpe, hne, hkk⟩ := hrel
      have HDE := Lib.hid hd
      have HSI := Lib.hid hsim
      have HNO := Lib.hid hnow
      have HPE := Lib.hid hpe
      have HNE := Lib.hid hne
      have HKK := Lib.hid hkk
      have hlr := HL.out.kept hkk (by simp; exact ⟨hgd.1, hgd.2.2.1⟩)
      have HLR := Lib.hid hlr
      obtain ⟨_, _, _, _, c4, _, _, c7, _⟩ := hlr.cells
      rw [HH.out] at c7
      have hlt1 := lt_whole hlr.blk
      clear hd hsim hnow hpe hne hkk hlr
      by_cases hkc : k < cnt
      · have hkl : 492 * k < l.length := by have := HC.out; omega
        go_upto_region 17 with fail
        have hpl : ((min ((l.length : Int)) (((k : Int) + 1) * 492)).toNat - k * 492) = (part l k).length := by rw [part_length]; omega
        have hpl2 := part_length l k
        have HBP : Hid (BytesAt wr (some ⟨ga, oa + k * 492, none⟩) (part l k)) := Lib.hid (by
          have := (HB.out.kept HKK.out (by simp; exact ⟨hga.1, hga.2.1⟩)).sub (k * 492) 492
          rw [show k * 492 = 492 * k by omega] at this ⊢
          exact this)
        have hly := fun w' (hk' : Kept [] wr w') => layP_walk d du mp base g E L w' (HDE.out.kept0 hk') (HLR.out.kept hk' (by simp)) hgd.1 hgd.2.2.1 L.epoch k k cnt (part l k) ga (oa + k * 492) (c - k * 492) (HBP.out.kept hk' (by simp)) (by rw [hpl2]; omega) HL.out.epoch (by omega) (by omega) (by omega) (by rw [HSI.out.S, HGN.out]; exact hS) (L.first + 2 + k) (by rw [HGN.out, Nat.mod_eq_of_lt (by omega)]) (by rw [HPE.out _ (.inr (by omega))]; exact HP.out k (by omega)) (by rw [HNE.out]; omega)
        have HLY := Lib.hid hly
        rw [hpl]
        clear hly hpl hpl2
        refine wp_canon (by kernel_rfl) (by kernel_rfl) ?_
        go_wp2_with fail
        refine (HLY.out _ ((Kept.refl [] wr).drew)).mono ?_
        rintro e w5 (⟨rfl, hdead⟩ | ⟨rfl, E', hd5, hwr5, hk5⟩)
        · have HEND := Lib.hid (show AppendPost d du mp base g D L l w (.returned (.int .i64 3)) w5 from .inl ⟨rfl, hdead.from HSI.out.S (Nat.le_of_eq HSI.out.life.symm) (HKK.out.drew) (by simp)⟩)
          clear hdead
          go_wp2
          refine ⟨rfl, ?_⟩
          go_wp2
          go_ret
          exact HEND.out
        · have HD5 := Lib.hid hd5
          have HW5 := Lib.hid hwr5
          have HK5 := Lib.hid (HKK.out.drew.trans hk5 (by simp))
          clear hd5 hwr5 hk5
          go_wp2
          refine ⟨rfl, ?_⟩
          go_wp2
          go_roundw
          case rel =>
            refine ⟨k + 1, E', by omega, by go_num, HD5.out, HSI.out.trans HW5.out.sim, ?_, ?_, by rw [HW5.out.np, HNE.out]; omega, HK5.out⟩
            · rw [HW5.out.now, HNO.out]; rfl
            · intro j hj
              rw [HW5.out.pend j (by omega), HPE.out j (by omega)]
          case measure => simp [intOf]; omega
      · obtain rfl : k = cnt := by omega
        have f7 := frozen_whole HLR.out.blk 7
        have hk9 := (Kept.refl [g] wr).setCell ⟨g, 7, none⟩ (.int .i64 k) (.inl (by simp))
        have hl9 : LogAt (wr.setCell ⟨g, 7, none⟩ (.int .i64 k)) g d { L with head := k } :=
          ⟨by rw [set_whole (i := 7) HLR.out.blk]; rfl, HLR.out.first, HLR.out.n, HLR.out.life, HLR.out.epoch, HLR.out.top, HLR.out.tail, by show k ≤ 1073741824; omega⟩
        have hd9 := HDE.out.kept hk9 (by simp; exact fun e => hgd.1 e.symm) (by simp; exact fun e => hgd.2.1 e.symm) (by simp; exact fun e => hgd.2.2.1 e.symm) (by simp; exact hgd.2.2.2)
        have HEND := Lib.hid (show AppendPost d du mp base g D L l w (.returned (.int .i64 0)) (wr.setCell ⟨g, 7, none⟩ (.int .i64 k)) from .inr ⟨rfl, E, hd9, HSI.out, by rw [← HC.out]; exact HNO.out, by rw [← HC.out]; exact HPE.out, by rw [← HC.out]; exact HNE.out, by rw [← HC.out]; exact hl9, (HKK.out.mono (G := [d, mp, g]) (by simp)).trans hk9 (by simp)⟩)
        clear hk9 hl9 hd9
        go_wp2
        go_ret
        exact HEND.out
end Go.Proofs.YtikfphojehgpjaaGreatDoor
