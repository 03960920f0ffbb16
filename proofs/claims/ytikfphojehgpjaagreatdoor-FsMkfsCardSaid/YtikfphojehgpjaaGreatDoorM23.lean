/- pool: read, has, turn, take, nodes, TakeNode: the first node. -/
import Derived.Test.YtikfphojehgpjaaGreatDoorM22
set_option linter.unusedSimpArgs false
set_option linter.unusedVariables false
namespace Go.Proofs.YtikfphojehgpjaaGreatDoor
open Go.RowKit Vl Go.Maps Go.ChangeMaps
set_option linter.unusedVariables false
section
variable {w w' : World} {X : TxC} {n : Nat} {m : Nat → Option (List UInt8)}
def bmCells (pl N : Nat) (g c : Nat) : Array Value := #[.pointer (some ⟨pl, 0, none⟩), .int .i64 1, .int .i64 0, .int .i64 N, .int .i64 1, .slice (some ⟨g, 0, none⟩) 512 c]
/-- The bitmap of the nodes, as it was read. -/
structure BmAt (w : World) (X : TxC) (mb pl g c : Nat) (l : List UInt8) : Prop where
  blk : w.heap[mb]? = some (.cells (bmCells pl X.Y.nodes g c) 277 (0, 0))
  bits : ∃ cur, w.heap[g]? = some (.cells cur 5 (0, 0)) ∧ cur.size = c ∧ cur.toList.take 512 = bcells l
  len : l.length = 512
  cap : 512 ≤ c
def PReadPost (X : TxC) (n : Nat) (m : Nat → Option (List UInt8)) (pl : Nat) (w : World) (e : Ending) (w' : World) : Prop :=
  ∃ mb g c, e = .returned (.pointer (some ⟨mb, 0, none⟩)) ∧ w.heap.size ≤ mb ∧ w.heap.size ≤ g ∧ g ≠ mb ∧ BmAt w' X mb pl g c (seen X m 1) ∧ (∀ w'', Kept [mb, g] w' w'' → TxAt w'' X n m) ∧ Kept [X.d] w w'
set_option maxRecDepth 100000 in
set_option maxHeartbeats 2000000 in
theorem pread_walk (ok : TxOk X) (h : TxAt w X n m) (pl : Nat) (hp : w.heap[pl]? = some (.cells #[.pointer (some ⟨X.t, 0, none⟩)] 129 (0, 0))) (hpd : pl ≠ X.d) (hb : 2 ≤ X.Y.blocks) (hsl : (seen X m 1).length = 512) :
    Calls Tryz.prog 163 #[.pointer (some ⟨pl, 0, none⟩), .agg #[.pointer none, .int .i64 1, .int .i64 0, .int .i64 X.Y.nodes, .int .i64 1, .slice none 0 0]] w (PReadPost X n m pl w) := by
  have H := Lib.hid h
  have HOK := Lib.hid ok
  have HP := Lib.hid hp
  have HSL := Lib.hid hsl
  have hk1 := (Kept.refl [] w).alloc (.cells #[.pointer none, .int .i64 1, .int .i64 0, .int .i64 X.Y.nodes, .int .i64 1, .slice none 0 0] 277)
  have hm1 := heap_alloc_new w (.cells #[.pointer none, .int .i64 1, .int .i64 0, .int .i64 X.Y.nodes, .int .i64 1, .slice none 0 0] 277)
  have hbase := h.base_le
  have hlow := ok.low
  clear h ok hp hsl
  go_enter Tryz.func163, Tryz.ntmps163
  go_upto_region 1 with fail
  generalize w.alloc (.cells #[.pointer none, .int .i64 1, .int .i64 0, .int .i64 X.Y.nodes, .int .i64 1, .slice none 0 0] 277) = w1 at *
  generalize hmb : w.heap.size = mb at *
  have HMB := Lib.hid hmb
  have HK1 := Lib.hid hk1
  have HM1 := Lib.hid hm1
  have hp1 := hk1.keep HP.out (by simp)
  have p0 := cell_whole hp1 0
  have pl1 := lt_whole hp1
  have m1 := cell_whole hm1 1
  have ml1 := lt_whole hm1
  simp only [List.getElem?_toArray, List.getElem?_cons_zero, List.getElem?_cons_succ] at p0 m1
  have HG := Lib.hid (get_walk HOK.out ((H.out.still hk1).still (Kept.refl [] w1).drew) 1 (by omega))
  clear hmb hk1 hm1 hp1
  refine wp_canon (by kernel_rfl) (by kernel_rfl) ?_
  go_wp2_with fail
  refine HG.out.mono ?_
  rintro e w2 ⟨v2, rfl, ho2, ht2, hk2⟩
  obtain ⟨g, c, cur, rfl, hgb, hcur, hle, _, hcs, htk⟩ : ∃ g c cur, v2 = .slice (some ⟨g, 0, none⟩) 512 c ∧ w1.drew.heap.size ≤ g ∧ w2.heap[g]? = some (.cells cur 5 (0, 0)) ∧ 512 ≤ c ∧ c ≤ maxLen ∧ cur.size = c * 1 ∧ cur.toList.take (512 * 1) = bcells (seen X m 1) := by
    rcases ho2.2 with ⟨_, e0⟩ | h
    · cases e0
    · exact h
  have hgb' : w1.heap.size ≤ g := hgb
  have hm2 := hk2.keep (show w1.drew.heap[mb]? = _ from HM1.out) (by simp; omega)
  have HM2 := Lib.hid hm2
  have HT2 := Lib.hid ht2
  have HK2 := Lib.hid ((HK1.out.drew.mono (G := [X.d]) (by simp)).trans hk2 (by simp))
  have HC2 := Lib.hid hcur
  have HLE := Lib.hid hle
  have HCS := Lib.hid hcs
  have HTK := Lib.hid htk
  clear ho2 ht2 hk2 hcur hcs htk hgb hm2 p0 m1 hle
  go_wp2_with fail
  refine ⟨rfl, ?_⟩
  go_wp2_with fail
  refine (pdemand_ok w2).mono ?_
  rintro e w3 ⟨rfl, rfl⟩
  have m0 := cell_whole HM2.out 0
  have f0 := frozen_whole HM2.out 0
  have ml := lt_whole HM2.out
  have s1 := set_whole (i := 0) HM2.out (.pointer (some ⟨pl, 0, none⟩))
  have m5 := cell_whole s1 5
  have f5 := frozen_whole s1 5
  have s2 := set_whole (i := 5) s1 (.slice (some ⟨g, 0, none⟩) 512 c)
  have hk3 : Kept [mb] w3 ((w3.setCell ⟨mb, 0, none⟩ (.pointer (some ⟨pl, 0, none⟩))).setCell ⟨mb, 5, none⟩ (.slice (some ⟨g, 0, none⟩) 512 c)) := ((Kept.refl [mb] w3).setCell _ _ (.inl (by simp))).setCell _ _ (.inl (by simp))
  have HEND := Lib.hid (show PReadPost X n m pl w (.returned (.pointer (some ⟨mb, 0, none⟩))) _ from ⟨mb, g, c, rfl, Nat.le_of_eq HMB.out, by rw [HMB.out]; omega, by omega, ⟨s2, ⟨cur, hk3.keep HC2.out (by simp; omega), by rw [HCS.out, Nat.mul_one], HTK.out⟩, HSL.out, HLE.out⟩, fun w'' hk'' => by
    have hk4 : Kept [mb, g] w3 w'' := (hk3.mono (G := [mb, g]) (by simp)).trans hk'' (by simp)
    obtain ⟨x, hd⟩ := HT2.out.disk
    exact H.out.read HOK.out (HK2.out.trans hk4 (by simp [HMB.out]; omega)) (hd.keptN HOK.out.pend hk4 (by simp; omega) (by simp; omega) (by simp; omega)), HK2.out.trans hk3 (by simp [HMB.out])⟩)
  simp only [List.getElem?_toArray, List.getElem?_cons_zero] at m0
  clear s1 s2 hk3
  go_wp2
  go_ret
  exact HEND.out
set_option maxRecDepth 100000 in
set_option maxHeartbeats 1000000 in
theorem nodes_walk (ok : TxOk X) (h : TxAt w X n m) (pl : Nat) (hp : w.heap[pl]? = some (.cells #[.pointer (some ⟨X.t, 0, none⟩)] 129 (0, 0))) (hpd : pl ≠ X.d) (hb : 2 ≤ X.Y.blocks) (hsl : (seen X m 1).length = 512) :
    Calls Tryz.prog 112 #[.pointer (some ⟨pl, 0, none⟩)] w (PReadPost X n m pl w) := by
  have H := Lib.hid h
  have HOK := Lib.hid ok
  have HP := Lib.hid hp
  have p0 := cell_whole hp 0
  have pl1 := lt_whole hp
  simp only [List.getElem?_toArray, List.getElem?_cons_zero] at p0
  have HLY := Lib.hid (tlayout_walk h)
  clear h ok hp
  go_enter Tryz.func112, Tryz.ntmps112
  go_wp2_with fail
  refine HLY.out.mono ?_
  rintro e w1 ⟨rfl, hk1⟩
  have hfd := field94_3 X.Y w1
  have HRD := Lib.hid (pread_walk HOK.out (H.out.still hk1) pl (hk1.keep HP.out (by simp)) hpd hb hsl)
  have HK1 := Lib.hid hk1
  clear hk1
  go_wp2_with fail
  refine HRD.out.mono ?_
  rintro e w2 ⟨mb, g, c, rfl, h1, h2, h3, h4, h5, h6⟩
  have HEND := Lib.hid (show PReadPost X n m pl w (.returned (.pointer (some ⟨mb, 0, none⟩))) w2 from ⟨mb, g, c, rfl, Nat.le_trans HK1.out.size h1, Nat.le_trans HK1.out.size h2, h3, h4, h5, (HK1.out.mono (G := [X.d]) (by simp)).trans h6 (by simp)⟩)
  clear h1 h2 h3 h4 h5 h6
  go_wp2
  go_ret
  exact HEND.out
theorem BmAt.cells {mb pl g c : Nat} {l : List UInt8} (h : BmAt w X mb pl g c l) : w.cell? ⟨mb, 0, none⟩ = some (.pointer (some ⟨pl, 0, none⟩)) ∧ w.cell? ⟨mb, 1, none⟩ = some (.int .i64 1) ∧ w.cell? ⟨mb, 2, none⟩ = some (.int .i64 0) ∧ w.cell? ⟨mb, 3, none⟩ = some (.int .i64 X.Y.nodes) ∧ w.cell? ⟨mb, 4, none⟩ = some (.int .i64 1) ∧ w.cell? ⟨mb, 5, none⟩ = some (.slice (some ⟨g, 0, none⟩) 512 c) :=
  ⟨cell_whole h.blk 0, cell_whole h.blk 1, cell_whole h.blk 2, cell_whole h.blk 3, cell_whole h.blk 4, cell_whole h.blk 5⟩
theorem BmAt.byte {mb pl g c : Nat} {l : List UInt8} (h : BmAt w X mb pl g c l) {i : Nat} (hi : i < 512) : w.cell? ⟨g, i, none⟩ = some (.int .u8 (l.getD i 0).toNat) ∧ w.frozen? ⟨g, i, none⟩ = false ∧ g < w.heap.size := by
  obtain ⟨cur, h1, h2, h3⟩ := h.bits
  refine ⟨?_, frozen_whole h1 i, lt_whole h1⟩
  rw [cell_whole h1 i, ← Array.getElem?_toList]
  have e : (cur.toList.take 512)[i]? = (bcells l)[i]? := by rw [h3]
  rw [List.getElem?_take_of_lt hi] at e
  rw [e]
  unfold bcells
  rw [List.getElem?_map, List.getD_eq_getElem?_getD, List.getElem?_eq_getElem (by rw [h.len]; exact hi)]
  rfl
theorem BmAt.at {mb pl g c : Nat} {l : List UInt8} (h : BmAt w X mb pl g c l) : BytesAt w (some ⟨g, 0, none⟩) l := fun i hi => by
  obtain ⟨h1, _, h3⟩ := h.byte (i := i) (by rw [← h.len]; exact hi)
  refine ⟨g, 0, rfl, h3, ?_⟩
  rw [Nat.zero_add, h1, List.getD_eq_getElem?_getD, List.getElem?_eq_getElem hi]; rfl
theorem BmAt.set {mb pl g c : Nat} {l : List UInt8} (h : BmAt w X mb pl g c l) (hd : g ≠ mb) : BmAt (w.setCell ⟨g, 0, none⟩ (.int .u8 1)) X mb pl g c (l.set 0 1) := by
  obtain ⟨cur, h1, h2, h3⟩ := h.bits
  refine ⟨set_other h.blk hd, ⟨_, set_whole (i := 0) h1 _, by simpa using h2, ?_⟩, by rw [List.length_set, h.len], h.cap⟩
  rw [Array.toList_setIfInBounds, List.take_set, h3]
  unfold bcells
  rw [List.map_set]; rfl
set_option maxRecDepth 100000 in
theorem has_walk {mb pl g c : Nat} {l : List UInt8} (h : BmAt w X mb pl g c l) (h0 : l.getD 0 0 = 0) : Calls Tryz.prog 164 #[.pointer (some ⟨mb, 0, none⟩), .int .i64 0] w fun e w' => e = .returned (.bool false) ∧ ∃ k, w' = w.drewN k := by
  obtain ⟨_, _, _, _, _, c5⟩ := h.cells
  obtain ⟨b0, _, gl⟩ := h.byte (i := 0) (by omega)
  rw [h0] at b0
  have hl := lt_whole h.blk
  have hcap := h.cap
  have hand : bits BinOp.and IntKind.u8 ((0 : UInt8).toNat : Int) 1 = 0 := by kernel_rfl
  clear h h0
  go_enter Tryz.func164, Tryz.ntmps164
  go_wp2_with fail
  go_quiet (fail)
  go_wp2
  go_ret
  have e : (bits BinOp.and IntKind.u8 0 1 != 0) = false := by kernel_rfl
  exact ⟨congrArg (fun b => Ending.returned (Value.bool b)) e, _, rfl⟩
def TurnPost (X : TxC) (n : Nat) (m : Nat → Option (List UInt8)) (g : Nat) (l : List UInt8) (w : World) (e : Ending) (w' : World) : Prop :=
  e = .returned (.tuple #[]) ∧ TxAt w' X (n + 1) (PutTo X m 1 (l.set 0 1)) ∧ Kept [X.d, X.own, g] w w'
set_option maxRecDepth 100000 in
set_option maxHeartbeats 2000000 in
theorem turn_bit_walk (ok : TxOk X) {mb pl g c : Nat} {l : List UInt8} (h : BmAt w X mb pl g c l) (h0 : l.getD 0 0 = 0) (hp : w.heap[pl]? = some (.cells #[.pointer (some ⟨X.t, 0, none⟩)] 129 (0, 0))) (hn : n < 15) (hb : 2 ≤ X.Y.blocks)
    (hT : ∀ w', Kept [mb, g] w w' → TxAt w' X n m) (hd : g ≠ X.d ∧ g ≠ mb ∧ g ≠ pl) (hmd : mb ≠ X.d ∧ mb ≠ X.own) (hpd : pl ≠ X.d ∧ pl ≠ X.own) :
    Calls Tryz.prog 165 #[.pointer (some ⟨mb, 0, none⟩), .int .i64 0] w (TurnPost X n m g l w) := by
  obtain ⟨cur, h1, h2, h3⟩ := h.bits
  obtain ⟨_, _, _, _, _, c5⟩ := h.cells
  obtain ⟨b0, fb0, gl⟩ := h.byte (i := 0) (by omega)
  rw [h0] at b0
  have hl := lt_whole h.blk
  have hcap := h.cap
  have HT := Lib.hid hT
  have HOK := Lib.hid ok
  have HH := Lib.hid h
  have HP := Lib.hid hp
  have hxo : bits BinOp.xor IntKind.u8 0 1 = 1 := by kernel_rfl
  clear h h0 hT ok h1 h2 h3 hp
  go_enter Tryz.func165, Tryz.ntmps165
  go_wp2_with fail
  refine wp_canon (by kernel_rfl) (by kernel_rfl) ?_
  go_wp2
  refine ⟨rfl, ?_⟩
  have hbm := HH.out.set hd.2.1
  have hk1 : Kept [g] w (w.setCell ⟨g, 0, none⟩ (.int .u8 1)) := (Kept.refl [g] w).setCell _ _ (.inl (by simp))
  have hp1 := hk1.keep HP.out (by simp; exact hd.2.2.symm)
  have ht1 := HT.out _ ((hk1.mono (G := [mb, g]) (by simp)).drew)
  generalize w.setCell ⟨g, 0, none⟩ (.int .u8 1) = w1 at *
  have HBM := Lib.hid hbm
  obtain ⟨d0, d1, _, _, _, d5⟩ := hbm.cells
  have HK1 := Lib.hid hk1
  have HPT := Lib.hid (tput_walk HOK.out (w := w1.drew.drew) (ht1.still (Kept.refl [] w1.drew).drew) hn 1 (by omega) (l.set 0 1) (by rw [List.length_set, HH.out.len]) g 0 c (hbm.at.kept ((Kept.refl [] w1).drewN 2) (by simp)) hd.1)
  have p0 : w1.cell? ⟨pl, 0, none⟩ = some (.pointer (some ⟨X.t, 0, none⟩)) := cell_whole hp1 0
  have pl1 := lt_whole hp1
  have ml1 := lt_whole hbm.blk
  have hmb : mb ∉ [X.d, X.own] ∧ pl ∉ [X.d, X.own] := by simp; exact ⟨hmd, hpd⟩
  have e0 : w1.drew.drew.cell? ⟨mb, 0, none⟩ = some (.pointer (some ⟨pl, 0, none⟩)) ∧ w1.drew.drew.cell? ⟨mb, 1, none⟩ = some (.int .i64 1) ∧ w1.drew.drew.cell? ⟨mb, 5, none⟩ = some (.slice (some ⟨g, 0, none⟩) 512 c) ∧ w1.drew.drew.cell? ⟨pl, 0, none⟩ = some (.pointer (some ⟨X.t, 0, none⟩)) := ⟨d0, d1, d5, p0⟩
  have HPU : Hid (Calls Tryz.prog 57 #[.pointer (some ⟨X.t, 0, none⟩), .int .i64 1, .slice (some ⟨g, 0, none⟩) 512 c] w1.drew.drew fun e w9 => e = .returned (.int .i64 0) ∧ TxAt w9 X (n + 1) (PutTo X m 1 (l.set 0 1)) ∧ Kept [X.d, X.own, g] w w9 ∧
      w9.cell? ⟨mb, 0, none⟩ = some (.pointer (some ⟨pl, 0, none⟩)) ∧ w9.cell? ⟨mb, 1, none⟩ = some (.int .i64 1) ∧ w9.cell? ⟨mb, 5, none⟩ = some (.slice (some ⟨g, 0, none⟩) 512 c) ∧ w9.cell? ⟨pl, 0, none⟩ = some (.pointer (some ⟨X.t, 0, none⟩))) := Lib.hid (HPT.out.mono (by
    rintro e w9 ⟨rfl, ht9, hk9⟩
    have hk : Kept [X.d, X.own] w1 w9 := (Kept.refl [X.d, X.own] w1).drew.drew.trans hk9 (by simp)
    exact ⟨rfl, ht9, (HK1.out.mono (G := [X.d, X.own, g]) (by simp)).trans hk (by simp), (cell_kept hk ml1 hmb.1).trans d0, (cell_kept hk ml1 hmb.1).trans d1, (cell_kept hk ml1 hmb.1).trans d5, (cell_kept hk pl1 hmb.2).trans p0⟩))
  clear hbm hk1 hp1 ht1 c5 b0 fb0 gl hl hxo HPT
  go_wp2_with fail
  go_region_held3 (fun w' => w'.cell? ⟨mb, 0, none⟩ = some (.pointer (some ⟨pl, 0, none⟩)) ∧ w'.cell? ⟨mb, 1, none⟩ = some (.int .i64 1) ∧ w'.cell? ⟨mb, 5, none⟩ = some (.slice (some ⟨g, 0, none⟩) 512 c) ∧ w'.cell? ⟨pl, 0, none⟩ = some (.pointer (some ⟨X.t, 0, none⟩)))
    (first
      | (with_reducible exact e0)
      | (with_reducible exact e9))
    ((first
      | (go_simp; go_at_call 57; (with_reducible refine HPU.out.mono ?_); rintro e w9 ⟨rfl, ht9, hk9, e9⟩)
      | (go_simp; go_at_call 54; (with_reducible refine (pdemand_ok w9).mono ?_); rintro e w10 ⟨rfl, rfl⟩)))
  have HEND := Lib.hid (show TurnPost X n m g l w (.returned (.tuple #[])) w10 from ⟨rfl, ht9, hk9⟩)
  clear ht9 hk9 e9 e0
  go_wp2
  go_end0
  exact HEND.out
def TkBitPost (X : TxC) (n : Nat) (m : Nat → Option (List UInt8)) (g : Nat) (l : List UInt8) (w : World) (e : Ending) (w' : World) : Prop :=
  e = .returned (.int .i64 1) ∧ TxAt w' X (n + 1) (PutTo X m 1 (l.set 0 1)) ∧ Kept [X.d, X.own, g] w w'
set_option maxRecDepth 100000 in
set_option maxHeartbeats 2000000 in
theorem take_bit_walk (ok : TxOk X) {mb pl g c : Nat} {l : List UInt8} (h : BmAt w X mb pl g c l) (h0 : l.getD 0 0 = 0) (hp : w.heap[pl]? = some (.cells #[.pointer (some ⟨X.t, 0, none⟩)] 129 (0, 0))) (hn : n < 15) (hb : 2 ≤ X.Y.blocks) (hN : 4 ≤ X.Y.nodes ∧ X.Y.nodes ≤ 1024)
    (hT : ∀ w', Kept [mb, g] w w' → TxAt w' X n m) (hd : g ≠ X.d ∧ g ≠ mb ∧ g ≠ pl) (hmd : mb ≠ X.d ∧ mb ≠ X.own) (hpd : pl ≠ X.d ∧ pl ≠ X.own) :
    Calls Tryz.prog 113 #[.pointer (some ⟨mb, 0, none⟩), .int .i64 61] w (TkBitPost X n m g l w) := by
  obtain ⟨_, _, c2, c3, c4, _⟩ := h.cells
  have hl := lt_whole h.blk
  have HAS := Lib.hid (has_walk h h0)
  have HTN : Hid (∀ k, Calls Tryz.prog 165 #[.pointer (some ⟨mb, 0, none⟩), .int .i64 0] (w.drewN k) fun e w' => TurnPost X n m g l w e w' ∧ w'.cell? ⟨mb, 4, none⟩ = some (.int .i64 1)) := Lib.hid (fun k => (turn_bit_walk ok (w := w.drewN k) ⟨h.blk, h.bits, h.len, h.cap⟩ h0 hp hn hb (fun w' hk => hT w' ((Kept.refl [mb, g] w).drewN k |>.trans hk (by simp))) hd hmd hpd).mono (by
    rintro e w' ⟨rfl, h1, h2⟩
    have hk : Kept [X.d, X.own, g] w w' := ((Kept.refl [X.d, X.own, g] w).drewN k).trans h2 (by simp)
    exact ⟨⟨rfl, h1, hk⟩, (cell_kept hk hl (by simp; exact ⟨hmd.1, hmd.2, hd.2.1.symm⟩)).trans c4⟩))
  clear h h0 hT hp ok
  generalize hnn : X.Y.nodes = N at *
  go_enter Tryz.func113, Tryz.ntmps113
  go_wp2_with fail
  go_loopw [5] (fun v wr => v = .int .i64 0 ∧ wr = w) (fun _ _ => 0)
  case atStart => exact ⟨rfl, rfl⟩
  case round =>
    obtain ⟨rfl, rfl⟩ := hrel
    go_wp2_with fail
    refine HAS.out.mono ?_
    rintro e w1 ⟨rfl, k, rfl⟩
    go_wp2_with fail
    refine (HTN.out k).mono ?_
    rintro e w2 ⟨⟨rfl, h1, h2⟩, e4⟩
    have HEND := Lib.hid (show TkBitPost X n m g l wr (.returned (.int .i64 1)) w2 from ⟨rfl, h1, h2⟩)
    have el := World.block_lt_of_cell? w2 _ e4
    clear h1 h2
    go_wp2
    go_ret
    exact HEND.out
def TakeNPost (X : TxC) (n : Nat) (m : Nat → Option (List UInt8)) (w : World) (e : Ending) (w' : World) : Prop :=
  e = .returned (.tuple #[.int .i64 1, .int .i64 0]) ∧ TxAt w' X (n + 1) (PutTo X m 1 ((seen X m 1).set 0 1)) ∧ Kept [X.d, X.own] w w'
set_option maxRecDepth 100000 in
set_option maxHeartbeats 2000000 in
theorem takeNode_walk (ok : TxOk X) (h : TxAt w X n m) (pl : Nat) (hp : w.heap[pl]? = some (.cells #[.pointer (some ⟨X.t, 0, none⟩)] 129 (0, 0))) (hpd : pl ≠ X.d ∧ pl ≠ X.own) (hn : n < 15) (hb : 2 ≤ X.Y.blocks) (hN : 4 ≤ X.Y.nodes ∧ X.Y.nodes ≤ 1024) (hsl : (seen X m 1).length = 512) (h0 : (seen X m 1).getD 0 0 = 0) :
    Calls Tryz.prog 61 #[.pointer (some ⟨pl, 0, none⟩)] w (TakeNPost X n m w) := by
  have hmf : ∀ (fn : Fn) (first cap : Array Value) (w : World), (Instr.makeFunc fn first cap).run Tryz.prog w = .ok (.func fn first cap) w := fun _ _ _ _ => rfl
  have H := Lib.hid h
  have HOK := Lib.hid ok
  have HP := Lib.hid hp
  have hk1 := (Kept.refl [] w).alloc (.cells #[.int .i64 0] 24)
  have hr1 := heap_alloc_new w (.cells #[.int .i64 0] 24)
  have hbase := h.base_le
  have hlow := ok.low
  have hpw := lt_whole hp
  clear h ok hp
  go_enter_defers Tryz.func61, Tryz.ntmps61
  go_upto_region 2 with fail
  generalize w.alloc (.cells #[.int .i64 0] 24) = w1 at *
  generalize hr : w.heap.size = r at *
  have HR := Lib.hid hr
  have HK1 := Lib.hid hk1
  have HR1 := Lib.hid hr1
  have hp1 := hk1.keep HP.out (by simp)
  have p0 := cell_whole hp1 0
  have pl1 := lt_whole hp1
  simp only [List.getElem?_toArray, List.getElem?_cons_zero] at p0
  have HST := Lib.hid (state_walk HOK.out (H.out.still hk1))
  clear hr hk1 hr1 hp1
  go_wp2_with fail
  refine HST.out.mono ?_
  rintro e w2 ⟨rfl, hk2⟩
  have HK2 := Lib.hid (HK1.out.trans hk2 (by simp))
  have HR2 := Lib.hid (hk2.keep HR1.out (by simp))
  clear hk2 HST HK1 HR1
  go_wp2_with fail
  refine (pdemand_ok w2).mono ?_
  rintro e w3 ⟨rfl, rfl⟩
  have HND := Lib.hid (nodes_walk HOK.out (H.out.still HK2.out) pl (HK2.out.keep HP.out (by simp)) hpd.1 hb hsl)
  have hw3 : r ≤ w3.heap.size := by have := HK2.out.size; rw [HR.out] at this; exact this
  go_wp2_with fail
  refine HND.out.mono ?_
  rintro e w4 ⟨mb, g, c, rfl, h1, h2, h3, h4, h5, h6⟩
  have hrl : r < w3.heap.size := lt_whole HR2.out
  have HTK := Lib.hid (take_bit_walk HOK.out h4 h0 ((HK2.out.mono (G := [X.d]) (by simp)).trans h6 (by simp) |>.keep HP.out (by simp; exact hpd.1)) hn hb hN h5 ⟨by omega, h3, by omega⟩ ⟨by omega, by omega⟩ hpd)
  have HK4 := Lib.hid ((HK2.out.mono (G := [X.d]) (by simp)).trans h6 (by simp))
  have HR4 := Lib.hid (h6.keep HR2.out (by simp; omega))
  clear h4 h5 h6 HND
  go_wp2_with fail
  refine HTK.out.mono ?_
  rintro e w5 ⟨rfl, ht5, hk5⟩
  have HR5 := Lib.hid (hk5.keep HR4.out (by simp; omega))
  have r0 := cell_whole HR5.out 0
  have rf := frozen_whole HR5.out 0
  have rl := lt_whole HR5.out
  simp only [List.getElem?_toArray, List.getElem?_cons_zero] at r0
  have hkz : Kept [r] w5 (w5.setCell ⟨r, 0, none⟩ (.int .i64 0)) := (Kept.refl _ _).setCell _ _ (.inl (by simp))
  have HRZ := Lib.hid (set_whole (i := 0) HR5.out (.int .i64 0))
  have HEND := Lib.hid (show TakeNPost X n m w (.returned (.tuple #[.int .i64 1, .int .i64 0])) (w5.setCell ⟨r, 0, none⟩ (.int .i64 0)) from ⟨rfl, ht5.other HOK.out HR5.out (by omega) hkz (by omega),
    (((HK4.out.mono (G := [X.d, X.own]) (by simp)).trans hk5 (by simp [HR.out]; omega)).trans hkz (by simp [HR.out]))⟩)
  clear hkz ht5 hk5
  go_wp2
  exact doorT_idle rfl HRZ.out HEND.out
end
end Go.Proofs.YtikfphojehgpjaaGreatDoor
/- node: must, known, the guard's deferred function (nothing thrown); codec: between. -/
namespace Go.Proofs.YtikfphojehgpjaaGreatDoor
open Go.RowKit Vl Go.Maps Go.ChangeMaps
set_option linter.unusedVariables false

theorem must_ok (w : World) : Calls Tryz.prog 62 #[.int .i64 0] w fun e w' => e = .returned (.tuple #[]) ∧ w' = w := by
  go_enter Tryz.func62, Tryz.ntmps62
  go_wp2
  go_end0
  exact ⟨rfl, rfl⟩
theorem between_walk (x lo hi : Int) (w : World) : Calls Tryz.prog 195 #[.int .i64 x, .int .i64 lo, .int .i64 hi] w fun e w' => e = .returned (.bool (decide (lo ≤ x) && decide (x ≤ hi))) ∧ w' = w := by
  by_cases h : lo ≤ x
  · have hd : decide (lo ≤ x) = true := decide_eq_true h
    have HD := Lib.hid hd
    go_enter Tryz.func195, Tryz.ntmps195
    go_wp2
    go_ret
    exact ⟨by simp only [HD.out, Bool.true_and]; rfl, rfl⟩
  · have hd : decide (lo ≤ x) = false := decide_eq_false h
    have HD := Lib.hid hd
    go_enter Tryz.func195, Tryz.ntmps195
    go_wp2
    go_ret
    exact ⟨by simp only [HD.out, Bool.false_and]; rfl, rfl⟩
set_option maxRecDepth 100000 in
set_option maxHeartbeats 1000000 in
theorem catchG_idle (a b : Nat) (w : World) :
    CallsD Tryz.prog 110 #[.pointer (some ⟨a, 0, none⟩), .pointer (some ⟨b, 0, none⟩)] .returning w fun e u' w' => e = .returned (.tuple #[]) ∧ u' = .returning ∧ w' = w := by
  refine callsD_of_wpS Tryz.func110 rfl fun c₀ cs hu => ?_
  apply wpS_seq
  apply wpS_region
  simp [wpOpsS, go_sem, recoverD, hu, Tryz.ntmps110, Exit.thenS]
  refine wpS_of_wp ?_
  simp only [Array.replicate_succ, Array.replicate_zero, List.push_toArray, List.append_toArray, List.nil_append, List.cons_append, Array.setIfInBounds, List.size_toArray, List.length_cons, List.length_nil, Nat.reduceAdd, Nat.reduceLT, dite_true, Array.set, List.set_cons_succ, List.set_cons_zero]
  go_wp2
  cases c₀
  simp_all [bodyPostS, results, Tryz.results110]
theorem doorG_idle {tmps : Array Value} {R : Ending → World → Prop} {w : World} {a b : Nat} (hR : R (.returned (.tuple #[])) w) :
    Leaves Tryz.prog Tryz.f58 tmps R [{ target := .fn (.func 110) #[.pointer (some ⟨a, 0, none⟩), .pointer (some ⟨b, 0, none⟩)], args := #[] }] .returning w := by
  refine leaves_cons (f := 110) (args := #[.pointer (some ⟨a, 0, none⟩), .pointer (some ⟨b, 0, none⟩)]) (by simp) (by simp [go_sem]) ?_
  refine (catchG_idle a b w).mono ?_
  rintro e u' w'' ⟨rfl, rfl, rfl⟩
  exact ⟨_, results_none rfl _ _ _, hR⟩
section
variable {w w' : World} {X : TxC} {n : Nat} {m : Nat → Option (List UInt8)}
theorem known_walk (h : TxAt w X n m) (nd pl : Nat) (hn : w.heap[nd]? = some (.cells #[.pointer (some ⟨pl, 0, none⟩)] 90 (0, 0))) (hp : w.heap[pl]? = some (.cells #[.pointer (some ⟨X.t, 0, none⟩)] 129 (0, 0))) (hN : 4 ≤ X.Y.nodes ∧ X.Y.nodes ≤ 1024) :
    Calls Tryz.prog 60 #[.pointer (some ⟨nd, 0, none⟩), .int .i64 1] w fun e w' => e = .returned (.tuple #[]) ∧ Kept [] w w' := by
  have HLY := Lib.hid (tlayout_walk h)
  have n0 := cell_whole hn 0
  have nl := lt_whole hn
  have p0 := cell_whole hp 0
  have pl1 := lt_whole hp
  simp only [List.getElem?_toArray, List.getElem?_cons_zero] at n0 p0
  clear h hn hp
  go_enter Tryz.func60, Tryz.ntmps60
  go_wp2_with fail
  refine HLY.out.mono ?_
  rintro e w1 ⟨rfl, hk1⟩
  have hfd := field94_3 X.Y w1
  have hgt : ((X.Y.nodes : Int) < 1) = False := by simp; omega
  go_wp2
  go_end0
  exact ⟨rfl, hk1⟩
end
end Go.Proofs.YtikfphojehgpjaaGreatDoor
