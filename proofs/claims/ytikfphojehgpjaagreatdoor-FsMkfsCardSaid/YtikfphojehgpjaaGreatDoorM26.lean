/- node: Make's closure. -/
import Derived.Test.YtikfphojehgpjaaGreatDoorM25
set_option linter.unusedSimpArgs false
set_option linter.unusedVariables false
namespace Go.Proofs.YtikfphojehgpjaaGreatDoor
open Go.RowKit Vl Go.Maps Go.ChangeMaps
set_option linter.unusedVariables false
section
variable {w w' : World} {X : TxC} {n : Nat} {m : Nat → Option (List UInt8)} {g : Nat}
def zeroCells : Array Value := #[.int .i64 0, .int .i64 0, .int .i64 0, .int .i64 0, .int .i64 0, .int .i64 0, .int .i64 0, .int .i64 0, .int .i64 0, .int .i64 0, .int .i64 0, .int .i64 0, .int .i64 0, .int .i64 0, .int .i64 0, .int .i64 0, .int .i64 0]
def rawCells : Array Value := #[.int .i64 2, .int .i64 0, .int .i64 1, .int .i64 0, .int .i64 0, .int .i64 0, .int .i64 0, .int .i64 0, .int .i64 0, .int .i64 0, .int .i64 0, .int .i64 0, .int .i64 0, .int .i64 0, .int .i64 0, .int .i64 0, .int .i64 0]
theorem raw_store (w : World) : (storeCells ⟨w.heap.size, 0, none⟩ rawCells.toList 0).run Tryz.prog (w.alloc (.cells zeroCells 134)) = .ok () (w.alloc (.cells rawCells 134)) := by
  have := run_storeCells_new (P := Tryz.prog) w 134 zeroCells rawCells (by kernel_rfl) (by rfl) (by kernel_rfl)
  simpa using this
/-- The row, cell by cell. -/
theorem root_cells {nb : Nat} (h : w.heap[nb]? = some (.cells rootCells 134 (0, 0))) : w.cell? ⟨nb, 0, none⟩ = some (.int .i64 2) ∧ w.cell? ⟨nb, 1, none⟩ = some (.int .i64 2) ∧ w.cell? ⟨nb, 2, none⟩ = some (.int .i64 1) ∧ w.cell? ⟨nb, 3, none⟩ = some (.int .i64 0) ∧ w.cell? ⟨nb, 4, none⟩ = some (.int .i64 0) ∧ w.cell? ⟨nb, 5, none⟩ = some (.int .i64 0) ∧ w.cell? ⟨nb, 6, none⟩ = some (.int .i64 0) ∧ w.cell? ⟨nb, 7, none⟩ = some (.int .i64 0) ∧ w.cell? ⟨nb, 8, none⟩ = some (.int .i64 0) ∧ w.cell? ⟨nb, 9, none⟩ = some (.int .i64 0) ∧ w.cell? ⟨nb, 10, none⟩ = some (.int .i64 0) ∧ w.cell? ⟨nb, 11, none⟩ = some (.int .i64 0) ∧ w.cell? ⟨nb, 12, none⟩ = some (.int .i64 0) ∧ w.cell? ⟨nb, 13, none⟩ = some (.int .i64 0) ∧ w.cell? ⟨nb, 14, none⟩ = some (.int .i64 0) ∧ w.cell? ⟨nb, 15, none⟩ = some (.int .i64 0) ∧ w.cell? ⟨nb, 16, none⟩ = some (.int .i64 0) :=
  ⟨cell_whole h 0, cell_whole h 1, cell_whole h 2, cell_whole h 3, cell_whole h 4, cell_whole h 5, cell_whole h 6, cell_whole h 7, cell_whole h 8, cell_whole h 9, cell_whole h 10, cell_whole h 11, cell_whole h 12, cell_whole h 13, cell_whole h 14, cell_whole h 15, cell_whole h 16⟩
/-- The two blocks that Make lays. -/
def Made (X : TxC) (m : Nat → Option (List UInt8)) : Nat → Option (List UInt8) := PutTo X (PutTo X m 1 ((seen X m 1).set 0 1)) 2 (over (seen X m 2) 0 rootB)
def Make1Post (X : TxC) (n : Nat) (m : Nat → Option (List UInt8)) (rb : Nat) (w : World) (e : Ending) (w' : World) : Prop :=
  e = .returned (.tuple #[]) ∧ w'.heap[rb]? = some (.cells #[.int .i64 1] 3 (0, 0)) ∧ TxAt w' X (n + 2) (Made X m) ∧ Kept [X.d, X.own, rb] w w'
set_option maxRecDepth 100000 in
set_option maxHeartbeats 4000000 in
theorem make1_walk (ok : TxOk X) (h : TxAt w X n m) (nd pl kb pb tb rb : Nat) (hnd : w.heap[nd]? = some (.cells #[.pointer (some ⟨pl, 0, none⟩)] 90 (0, 0))) (hp : w.heap[pl]? = some (.cells #[.pointer (some ⟨X.t, 0, none⟩)] 129 (0, 0)))
    (hkb : w.heap[kb]? = some (.cells #[.int .i64 2] 3 (0, 0))) (hpb : w.heap[pb]? = some (.cells #[.int .i64 1] 3 (0, 0))) (htb : w.heap[tb]? = some (.cells #[.pointer (some ⟨nd, 0, none⟩)] 85 (0, 0))) (hrb : w.heap[rb]? = some (.cells #[.int .i64 0] 3 (0, 0)))
    (hb : 3 ≤ X.Y.blocks) (hN : 4 ≤ X.Y.nodes ∧ X.Y.nodes ≤ 1024) (hn : n < 13) (hs1 : (seen X m 1).length = 512) (h0 : (seen X m 1).getD 0 0 = 0) (hs2 : (seen X m 2).length = 512)
    (hno : nd ∉ [X.d, X.own] ∧ pl ∉ [X.d, X.own] ∧ tb ∉ [X.d, X.own] ∧ rb ∉ [X.d, X.own]) (hrx : X.base ≤ rb) :
    Calls Tryz.prog 59 #[.pointer (some ⟨kb, 0, none⟩), .pointer (some ⟨pb, 0, none⟩), .pointer (some ⟨tb, 0, none⟩), .pointer (some ⟨rb, 0, none⟩)] w (Make1Post X n m rb w) := by
  have HOK := Lib.hid ok
  have H := Lib.hid h
  have k0 := cell_whole hkb 0
  have q0 := cell_whole hpb 0
  simp only [List.getElem?_toArray, List.getElem?_cons_zero] at k0 q0
  have lk := lt_whole hkb
  have lq := lt_whole hpb
  have hst := raw_store w
  have hk1 := (Kept.refl [] w).alloc (.cells rawCells 134)
  have hm1 := heap_alloc_new w (.cells rawCells 134)
  unfold rawCells zeroCells at hst
  unfold rawCells at hk1 hm1
  clear ok h
  go_enter Tryz.func59, Tryz.ntmps59
  go_upto_region 1 with fail
  have hnb : w.heap.size ≠ nd ∧ w.heap.size ≠ pl ∧ w.heap.size ≠ tb ∧ w.heap.size ≠ rb := by
    have := lt_whole hnd; have := lt_whole hp; have := lt_whole htb; have := lt_whole hrb
    omega
  have HND := Lib.hid (hk1.keep hnd (by simp))
  have HP := Lib.hid (hk1.keep hp (by simp))
  have HT := Lib.hid (hk1.keep htb (by simp))
  have HRB := Lib.hid (hk1.keep hrb (by simp))
  have hkb1 := hk1.keep hkb (by simp)
  have hpb1 := hk1.keep hpb (by simp)
  have hbase := H.out.base_le
  have hlow := HOK.out.low
  generalize w.alloc (.cells #[.int .i64 2, .int .i64 0, .int .i64 1, .int .i64 0, .int .i64 0, .int .i64 0, .int .i64 0, .int .i64 0, .int .i64 0, .int .i64 0, .int .i64 0, .int .i64 0, .int .i64 0, .int .i64 0, .int .i64 0, .int .i64 0, .int .i64 0] 134) = w1 at *
  generalize hnb' : w.heap.size = nb at *
  have HNB := Lib.hid hnb'
  have HK1 := Lib.hid hk1
  have HM1 := Lib.hid hm1
  have ml1 := lt_whole hm1
  have t0 := cell_whole HT.out 0
  have tl := lt_whole HT.out
  have k1 := cell_whole hkb1 0
  have kl := lt_whole hkb1
  have q1 := cell_whole hpb1 0
  have ql := lt_whole hpb1
  simp only [List.getElem?_toArray, List.getElem?_cons_zero] at t0 k1 q1
  have HKN := Lib.hid (known_walk (H.out.still hk1) nd pl HND.out HP.out hN)
  clear hk1 hm1 hnb' hst hkb1 hpb1 hkb hpb htb hrb hnd hp k0 q0 lk lq
  go_wp2_with fail
  refine HKN.out.mono ?_
  rintro e w2 ⟨rfl, hk2⟩
  have hm2 := hk2.keep HM1.out (by simp)
  have f1 := frozen_whole hm2 1
  have m1 := cell_whole hm2 1
  have ml2 := lt_whole hm2
  have HS1 := Lib.hid (show (w2.setCell ⟨nb, 1, none⟩ (.int .i64 2)).heap[nb]? = some (.cells rootCells 134 (0, 0)) from set_whole (i := 1) hm2 (.int .i64 2))
  have HK3 := Lib.hid ((HK1.out.trans hk2 (by simp)).trans ((Kept.refl [nb] w2).setCell ⟨nb, 1, none⟩ (.int .i64 2) (.inl (by simp))) (by simp [HNB.out]))
  have hks : Kept [nb] w1 (w2.setCell ⟨nb, 1, none⟩ (.int .i64 2)) := (hk2.mono (G := [nb]) (by simp)).trans ((Kept.refl [nb] w2).setCell ⟨nb, 1, none⟩ (.int .i64 2) (.inl (by simp))) (by simp)
  have HND3 := Lib.hid (hks.keep HND.out (by simp; exact hnb.1.symm))
  have HP3 := Lib.hid (hks.keep HP.out (by simp; exact hnb.2.1.symm))
  have HT3 := Lib.hid (hks.keep HT.out (by simp; exact hnb.2.2.1.symm))
  have HRB3 := Lib.hid (hks.keep HRB.out (by simp; exact hnb.2.2.2.symm))
  clear hm2 hk2 hks HM1 HKN t0 tl k1 kl q1 ql ml1
  go_upto_region 10 with fail
  generalize w2.setCell ⟨nb, 1, none⟩ (.int .i64 2) = w3 at *
  have HTN := Lib.hid (takeNode_walk HOK.out (H.out.still HK3.out) pl HP3.out (by have := hno.2.1; simp at this; exact this) (by omega) (by omega) hN hs1 h0)
  have t0 := cell_whole HT3.out 0
  have tl := lt_whole HT3.out
  have n0 := cell_whole HND3.out 0
  have nl := lt_whole HND3.out
  simp only [List.getElem?_toArray, List.getElem?_cons_zero] at t0 n0
  clear f1 m1 ml2
  go_wp2_with fail
  refine HTN.out.mono ?_
  rintro e w4 ⟨rfl, ht4, hk4⟩
  have hnbx : nb ∉ [X.d, X.own] := by simp; omega
  have HT4 := Lib.hid ht4
  have HK4 := Lib.hid ((HK3.out.mono (G := [X.d, X.own]) (by simp)).trans hk4 (by simp))
  have HND4 := Lib.hid (hk4.keep HND3.out hno.1)
  have HP4 := Lib.hid (hk4.keep HP3.out hno.2.1)
  have HTB4 := Lib.hid (hk4.keep HT3.out hno.2.2.1)
  have HRB4 := Lib.hid (hk4.keep HRB3.out hno.2.2.2)
  have HM4 := Lib.hid (hk4.keep HS1.out hnbx)
  have HSZ := Lib.hid (Nat.le_trans HK3.out.size hk4.size)
  clear ht4 hk4 HTN HS1 t0 tl n0 nl
  go_wp2_with fail
  refine (must_ok w4).mono ?_
  rintro e w5 ⟨rfl, rfl⟩
  have hse : seen X (PutTo X m 1 ((seen X m 1).set 0 1)) 2 = seen X m 2 := by rw [seen_put]; rfl
  have HSLT := slot_walk HOK.out (w := w5.drew) (HT4.out.still (Kept.refl [] w5).drew) nd pl HND4.out HP4.out hb (by rw [hse]; exact hs2)
  have e0 : w5.drew.cell? ⟨tb, 0, none⟩ = some (.pointer (some ⟨nd, 0, none⟩)) ∧ w5.drew.cell? ⟨nb, 0, none⟩ = some (.int .i64 2) ∧ w5.drew.cell? ⟨nb, 1, none⟩ = some (.int .i64 2) ∧ w5.drew.cell? ⟨nb, 2, none⟩ = some (.int .i64 1) ∧ w5.drew.cell? ⟨nb, 3, none⟩ = some (.int .i64 0) ∧ w5.drew.cell? ⟨nb, 4, none⟩ = some (.int .i64 0) ∧ w5.drew.cell? ⟨nb, 5, none⟩ = some (.int .i64 0) ∧ w5.drew.cell? ⟨nb, 6, none⟩ = some (.int .i64 0) ∧ w5.drew.cell? ⟨nb, 7, none⟩ = some (.int .i64 0) ∧ w5.drew.cell? ⟨nb, 8, none⟩ = some (.int .i64 0) ∧ w5.drew.cell? ⟨nb, 9, none⟩ = some (.int .i64 0) ∧ w5.drew.cell? ⟨nb, 10, none⟩ = some (.int .i64 0) ∧ w5.drew.cell? ⟨nb, 11, none⟩ = some (.int .i64 0) ∧ w5.drew.cell? ⟨nb, 12, none⟩ = some (.int .i64 0) ∧ w5.drew.cell? ⟨nb, 13, none⟩ = some (.int .i64 0) ∧ w5.drew.cell? ⟨nb, 14, none⟩ = some (.int .i64 0) ∧ w5.drew.cell? ⟨nb, 15, none⟩ = some (.int .i64 0) ∧ w5.drew.cell? ⟨nb, 16, none⟩ = some (.int .i64 0) := ⟨cell_whole HTB4.out 0, root_cells (w := w5.drew) HM4.out⟩
  have HSU : Hid (Calls Tryz.prog 64 #[.pointer (some ⟨nd, 0, none⟩), .int .i64 1] w5.drew fun e w6 => ∃ g c, e = .returned (.agg #[.int .i64 1, .int .i64 2, .slice (some ⟨g, 0, none⟩) 512 c]) ∧
      Hid (Calls Tryz.prog 63 #[.pointer (some ⟨nd, 0, none⟩), .agg #[.int .i64 1, .int .i64 2, .slice (some ⟨g, 0, none⟩) 512 c], .agg rootCells] w6 fun e w7 => e = .returned (.tuple #[]) ∧ TxAt w7 X (n + 2) (Made X m) ∧ Kept [X.d, X.own] w w7 ∧ w7.heap[rb]? = some (.cells #[.int .i64 0] 3 (0, 0)) ∧ w7.cell? ⟨tb, 0, none⟩ = some (.pointer (some ⟨nd, 0, none⟩)) ∧ w7.cell? ⟨nb, 0, none⟩ = some (.int .i64 2) ∧ w7.cell? ⟨nb, 1, none⟩ = some (.int .i64 2) ∧ w7.cell? ⟨nb, 2, none⟩ = some (.int .i64 1) ∧ w7.cell? ⟨nb, 3, none⟩ = some (.int .i64 0) ∧ w7.cell? ⟨nb, 4, none⟩ = some (.int .i64 0) ∧ w7.cell? ⟨nb, 5, none⟩ = some (.int .i64 0) ∧ w7.cell? ⟨nb, 6, none⟩ = some (.int .i64 0) ∧ w7.cell? ⟨nb, 7, none⟩ = some (.int .i64 0) ∧ w7.cell? ⟨nb, 8, none⟩ = some (.int .i64 0) ∧ w7.cell? ⟨nb, 9, none⟩ = some (.int .i64 0) ∧ w7.cell? ⟨nb, 10, none⟩ = some (.int .i64 0) ∧ w7.cell? ⟨nb, 11, none⟩ = some (.int .i64 0) ∧ w7.cell? ⟨nb, 12, none⟩ = some (.int .i64 0) ∧ w7.cell? ⟨nb, 13, none⟩ = some (.int .i64 0) ∧ w7.cell? ⟨nb, 14, none⟩ = some (.int .i64 0) ∧ w7.cell? ⟨nb, 15, none⟩ = some (.int .i64 0) ∧ w7.cell? ⟨nb, 16, none⟩ = some (.int .i64 0)) ∧
      w6.cell? ⟨tb, 0, none⟩ = some (.pointer (some ⟨nd, 0, none⟩)) ∧ w6.cell? ⟨nb, 0, none⟩ = some (.int .i64 2) ∧ w6.cell? ⟨nb, 1, none⟩ = some (.int .i64 2) ∧ w6.cell? ⟨nb, 2, none⟩ = some (.int .i64 1) ∧ w6.cell? ⟨nb, 3, none⟩ = some (.int .i64 0) ∧ w6.cell? ⟨nb, 4, none⟩ = some (.int .i64 0) ∧ w6.cell? ⟨nb, 5, none⟩ = some (.int .i64 0) ∧ w6.cell? ⟨nb, 6, none⟩ = some (.int .i64 0) ∧ w6.cell? ⟨nb, 7, none⟩ = some (.int .i64 0) ∧ w6.cell? ⟨nb, 8, none⟩ = some (.int .i64 0) ∧ w6.cell? ⟨nb, 9, none⟩ = some (.int .i64 0) ∧ w6.cell? ⟨nb, 10, none⟩ = some (.int .i64 0) ∧ w6.cell? ⟨nb, 11, none⟩ = some (.int .i64 0) ∧ w6.cell? ⟨nb, 12, none⟩ = some (.int .i64 0) ∧ w6.cell? ⟨nb, 13, none⟩ = some (.int .i64 0) ∧ w6.cell? ⟨nb, 14, none⟩ = some (.int .i64 0) ∧ w6.cell? ⟨nb, 15, none⟩ = some (.int .i64 0) ∧ w6.cell? ⟨nb, 16, none⟩ = some (.int .i64 0)) := Lib.hid (HSLT.mono (by
    rintro e w6 ⟨g, c, rfl, hg, hr, hT6, hk6⟩
    have hg' : w5.heap.size ≤ g := hg
    have hk : Kept [X.d] w5 w6 := ((Kept.refl [] w5).drew.mono (by simp)).trans hk6 (by simp)
    have hx : ∀ x, x ∉ [X.d, X.own] → x ∉ [X.d] := fun x hx => by simp at hx ⊢; exact hx.1
    have a1 := hk.keep HND4.out (hx _ hno.1)
    have a2 := hk.keep HP4.out (hx _ hno.2.1)
    have a3 := hk.keep HTB4.out (hx _ hno.2.2.1)
    have a4 := hk.keep HRB4.out (hx _ hno.2.2.2)
    have a5 := hk.keep HM4.out (hx _ hnbx)
    have l1 := lt_whole HND4.out
    have l2 := lt_whole HP4.out
    have l3 := lt_whole HTB4.out
    have l4 := lt_whole HRB4.out
    have l5 := lt_whole HM4.out
    have hsz := HSZ.out
    refine ⟨g, c, rfl, Lib.hid ((nlay_walk HOK.out hT6 nd pl a1 a2 hb (by omega) c _ hr (by omega) ⟨hno.1, hno.2.1⟩).mono ?_), cell_whole a3 0, root_cells a5⟩
    rintro e w7 ⟨rfl, ht7, hk7⟩
    have hy : ∀ x, x < w5.heap.size → x ∉ [X.d, X.own] → x ∉ [X.d, X.own, g] := fun x h1 h2 => by simp at h2 ⊢; exact ⟨h2.1, h2.2, by omega⟩
    have b3 := hk7.keep a3 (hy _ l3 hno.2.2.1)
    refine ⟨rfl, ?_, (HK4.out.trans (hk.mono (G := [X.d, X.own]) (by simp)) (by simp)).trans hk7 (by simp; omega), hk7.keep a4 (hy _ l4 hno.2.2.2), cell_whole b3 0, root_cells (hk7.keep a5 (hy _ l5 hnbx))⟩
    rw [hse] at ht7
    exact ht7))
  clear HSLT
  unfold rootCells at HSU
  go_upto_region 12 with fail
  go_region_held3 (fun w' => w'.cell? ⟨tb, 0, none⟩ = some (.pointer (some ⟨nd, 0, none⟩)) ∧ w'.cell? ⟨nb, 0, none⟩ = some (.int .i64 2) ∧ w'.cell? ⟨nb, 1, none⟩ = some (.int .i64 2) ∧ w'.cell? ⟨nb, 2, none⟩ = some (.int .i64 1) ∧ w'.cell? ⟨nb, 3, none⟩ = some (.int .i64 0) ∧ w'.cell? ⟨nb, 4, none⟩ = some (.int .i64 0) ∧ w'.cell? ⟨nb, 5, none⟩ = some (.int .i64 0) ∧ w'.cell? ⟨nb, 6, none⟩ = some (.int .i64 0) ∧ w'.cell? ⟨nb, 7, none⟩ = some (.int .i64 0) ∧ w'.cell? ⟨nb, 8, none⟩ = some (.int .i64 0) ∧ w'.cell? ⟨nb, 9, none⟩ = some (.int .i64 0) ∧ w'.cell? ⟨nb, 10, none⟩ = some (.int .i64 0) ∧ w'.cell? ⟨nb, 11, none⟩ = some (.int .i64 0) ∧ w'.cell? ⟨nb, 12, none⟩ = some (.int .i64 0) ∧ w'.cell? ⟨nb, 13, none⟩ = some (.int .i64 0) ∧ w'.cell? ⟨nb, 14, none⟩ = some (.int .i64 0) ∧ w'.cell? ⟨nb, 15, none⟩ = some (.int .i64 0) ∧ w'.cell? ⟨nb, 16, none⟩ = some (.int .i64 0))
    (first
      | (with_reducible exact e0)
      | (with_reducible exact e9)
      | (with_reducible exact e8))
    ((first
      | (go_simp; go_at_call 64; (with_reducible refine HSU.out.mono ?_); rintro e w6 ⟨g, c, rfl, hnl, e8⟩)
      | (go_simp; go_at_call 63; (with_reducible refine hnl.out.mono ?_); rintro e w7 ⟨rfl, ht7, hk7, hr7, e9⟩)))
  have hk7s := Lib.hid hk7
  have HT7 := Lib.hid ht7
  have HR7 := Lib.hid hr7
  have r0 := cell_whole hr7 0
  have rf := frozen_whole hr7 0
  have rl := lt_whole hr7
  have hks : Kept [rb] w7 (w7.setCell ⟨rb, 0, none⟩ (.int .i64 1)) := (Kept.refl [rb] w7).setCell _ _ (.inl (by simp))
  have HEND := Lib.hid (show Make1Post X n m rb w (.returned (.tuple #[])) (w7.setCell ⟨rb, 0, none⟩ (.int .i64 1)) from ⟨rfl, set_whole (i := 0) hr7 (.int .i64 1), ht7.other HOK.out hr7 (by decide) hks hrx, (hk7.mono (G := [X.d, X.own, rb]) (by simp)).trans hks (by simp)⟩)
  clear e9 hks hk7 ht7 hr7
  go_wp2
  go_end0
  exact HEND.out
end
end Go.Proofs.YtikfphojehgpjaaGreatDoor
