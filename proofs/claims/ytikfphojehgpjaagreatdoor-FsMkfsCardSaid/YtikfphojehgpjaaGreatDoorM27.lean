/- node: guard, Make: the root. -/
import Derived.Test.YtikfphojehgpjaaGreatDoorM26
import Derived.RegionTactic
import Derived.ChangeAlike
set_option linter.unusedSimpArgs false
set_option linter.unusedVariables false
namespace Go.Proofs.YtikfphojehgpjaaGreatDoor
open Go.RowKit Vl Go.Maps Go.ChangeMaps
set_option linter.unusedVariables false
section
variable {w w' : World} {X : TxC} {n : Nat} {m : Nat → Option (List UInt8)} {g : Nat}
set_option maxRecDepth 100000 in
set_option maxHeartbeats 2000000 in
theorem guard_walk (ok : TxOk X) (h : TxAt w X n m) (nd pl kb pb tb rb eb : Nat) (hnd : w.heap[nd]? = some (.cells #[.pointer (some ⟨pl, 0, none⟩)] 90 (0, 0))) (hp : w.heap[pl]? = some (.cells #[.pointer (some ⟨X.t, 0, none⟩)] 129 (0, 0)))
    (hc : ∀ w1, Kept [] w w1 → Calls Tryz.prog 59 #[.pointer (some ⟨kb, 0, none⟩), .pointer (some ⟨pb, 0, none⟩), .pointer (some ⟨tb, 0, none⟩), .pointer (some ⟨rb, 0, none⟩)] w1 (Make1Post X n m rb w1)) :
    Calls Tryz.prog 58 #[.pointer (some ⟨nd, 0, none⟩), .pointer (some ⟨eb, 0, none⟩), .func (.func 59) #[] #[.pointer (some ⟨kb, 0, none⟩), .pointer (some ⟨pb, 0, none⟩), .pointer (some ⟨tb, 0, none⟩), .pointer (some ⟨rb, 0, none⟩)]] w (Make1Post X n m rb w) := by
  have hmf : ∀ (fn : Fn) (first cap : Array Value) (w : World), (Instr.makeFunc fn first cap).run Tryz.prog w = .ok (.func fn first cap) w := fun _ _ _ _ => rfl
  have H := Lib.hid h
  have HOK := Lib.hid ok
  have HC := Lib.hid hc
  have hk1 := ((Kept.refl [] w).alloc (.cells #[.pointer (some ⟨nd, 0, none⟩)] 85)).alloc (.cells #[.pointer (some ⟨eb, 0, none⟩)] 126)
  have ha := alloc_whole (heap_alloc_new w (.cells #[.pointer (some ⟨nd, 0, none⟩)] 85)) (o' := .cells #[.pointer (some ⟨eb, 0, none⟩)] 126)
  have hnd1 := hk1.keep hnd (by simp)
  have hp1 := hk1.keep hp (by simp)
  clear h ok hc hnd hp
  go_enter_defers Tryz.func58, Tryz.ntmps58
  go_upto_region 2 with fail
  generalize (w.alloc (.cells #[.pointer (some ⟨nd, 0, none⟩)] 85)).alloc (.cells #[.pointer (some ⟨eb, 0, none⟩)] 126) = w1 at *
  generalize w.heap.size = r at *
  have HK1 := Lib.hid hk1
  have a0 := cell_whole ha 0
  have al := lt_whole ha
  have n0 := cell_whole hnd1 0
  have nl := lt_whole hnd1
  have p0 := cell_whole hp1 0
  have pl1 := lt_whole hp1
  simp only [List.getElem?_toArray, List.getElem?_cons_zero] at a0 n0 p0
  have HST := Lib.hid (state_walk HOK.out (H.out.still hk1))
  clear hk1 ha hnd1 hp1
  go_wp2_with fail
  refine HST.out.mono ?_
  rintro e w2 ⟨rfl, hk2⟩
  have HK2 := Lib.hid (HK1.out.trans hk2 (by simp))
  clear hk2 HST HK1
  go_wp2_with fail
  refine (must_ok w2).mono ?_
  rintro e w3 ⟨rfl, rfl⟩
  have HCC := Lib.hid (HC.out w3 HK2.out)
  go_wp2_with fail
  refine HCC.out.mono ?_
  rintro e w4 ⟨rfl, h1, h2, h3⟩
  have HEND := Lib.hid (show Make1Post X n m rb w (.returned (.tuple #[])) w4 from ⟨rfl, h1, h2, (HK2.out.mono (G := [X.d, X.own, rb]) (by simp)).trans h3 (by simp)⟩)
  clear h1 h2 h3 HCC
  go_wp2
  exact doorG_idle HEND.out
theorem res23 (tmps : Array Value) (w : World) (b c : Nat) (u v : Value) (t0 : tmps.getD 6 undef = .pointer (some ⟨b, 0, none⟩)) (t1 : tmps.getD 7 undef = .pointer (some ⟨c, 0, none⟩)) (h0 : w.cell? ⟨b, 0, none⟩ = some u) (h1 : w.cell? ⟨c, 0, none⟩ = some v) :
    (results Tryz.f23 tmps).run Tryz.prog w = .ok (.tuple #[u, v]) w := by
  have t0' : tmps[6]?.getD undef = .pointer (some ⟨b, 0, none⟩) := by simpa using t0
  have t1' : tmps[7]?.getD undef = .pointer (some ⟨c, 0, none⟩) := by simpa using t1
  simp [results, Tryz.results23, go_sem, asAddr, t0', t1', h0, h1]
def MakePost (X : TxC) (n : Nat) (m : Nat → Option (List UInt8)) (w : World) (e : Ending) (w' : World) : Prop :=
  e = .returned (.tuple #[.int .i64 1, .int .i64 0]) ∧ TxAt w' X (n + 2) (Made X m) ∧ Kept [X.d, X.own] w w'
set_option maxRecDepth 100000 in
set_option maxHeartbeats 2000000 in
theorem make_walk (ok : TxOk X) (h : TxAt w X n m) (nd pl : Nat) (hnd : w.heap[nd]? = some (.cells #[.pointer (some ⟨pl, 0, none⟩)] 90 (0, 0))) (hp : w.heap[pl]? = some (.cells #[.pointer (some ⟨X.t, 0, none⟩)] 129 (0, 0)))
    (hb : 3 ≤ X.Y.blocks) (hN : 4 ≤ X.Y.nodes ∧ X.Y.nodes ≤ 1024) (hn : n < 13) (hs1 : (seen X m 1).length = 512) (h0 : (seen X m 1).getD 0 0 = 0) (hs2 : (seen X m 2).length = 512)
    (hno : nd ∉ [X.d, X.own] ∧ pl ∉ [X.d, X.own]) :
    Calls Tryz.prog 23 #[.pointer (some ⟨nd, 0, none⟩), .int .i64 2, .int .i64 1] w (MakePost X n m w) := by
  have hmf : ∀ (fn : Fn) (first cap : Array Value) (w : World), (Instr.makeFunc fn first cap).run Tryz.prog w = .ok (.func fn first cap) w := fun _ _ _ _ => rfl
  have H := Lib.hid h
  have HOK := Lib.hid ok
  have hbase := h.base_le
  have hlow := ok.low
  have a3 := heap_alloc_new w (.cells #[.pointer (some ⟨nd, 0, none⟩)] 85)
  have a4 := heap_alloc_new (w.alloc (.cells #[.pointer (some ⟨nd, 0, none⟩)] 85)) (.cells #[.int .i64 2] 3)
  have a5 := heap_alloc_new ((w.alloc (.cells #[.pointer (some ⟨nd, 0, none⟩)] 85)).alloc (.cells #[.int .i64 2] 3)) (.cells #[.int .i64 1] 3)
  have a6 := heap_alloc_new (((w.alloc (.cells #[.pointer (some ⟨nd, 0, none⟩)] 85)).alloc (.cells #[.int .i64 2] 3)).alloc (.cells #[.int .i64 1] 3)) (.cells #[.int .i64 0] 3)
  have a7 := heap_alloc_new ((((w.alloc (.cells #[.pointer (some ⟨nd, 0, none⟩)] 85)).alloc (.cells #[.int .i64 2] 3)).alloc (.cells #[.int .i64 1] 3)).alloc (.cells #[.int .i64 0] 3)) (.cells #[.int .i64 0] 24)
  have b3 := alloc_whole (alloc_whole (alloc_whole (alloc_whole a3 (o' := .cells #[.int .i64 2] 3)) (o' := .cells #[.int .i64 1] 3)) (o' := .cells #[.int .i64 0] 3)) (o' := .cells #[.int .i64 0] 24)
  have b4 := alloc_whole (alloc_whole (alloc_whole a4 (o' := .cells #[.int .i64 1] 3)) (o' := .cells #[.int .i64 0] 3)) (o' := .cells #[.int .i64 0] 24)
  have b5 := alloc_whole (alloc_whole a5 (o' := .cells #[.int .i64 0] 3)) (o' := .cells #[.int .i64 0] 24)
  have b6 := alloc_whole a6 (o' := .cells #[.int .i64 0] 24)
  have hk1 := (((((Kept.refl [] w).alloc (.cells #[.pointer (some ⟨nd, 0, none⟩)] 85)).alloc (.cells #[.int .i64 2] 3)).alloc (.cells #[.int .i64 1] 3)).alloc (.cells #[.int .i64 0] 3)).alloc (.cells #[.int .i64 0] 24)
  have hnd1 := hk1.keep hnd (by simp)
  have hp1 := hk1.keep hp (by simp)
  simp only [size_alloc] at b4 b5 b6 a7
  clear h ok hnd hp a3 a4 a5 a6
  go_enter Tryz.func23, Tryz.ntmps23
  go_upto_region 1 with fail
  generalize ((((w.alloc (.cells #[.pointer (some ⟨nd, 0, none⟩)] 85)).alloc (.cells #[.int .i64 2] 3)).alloc (.cells #[.int .i64 1] 3)).alloc (.cells #[.int .i64 0] 3)).alloc (.cells #[.int .i64 0] 24) = w1 at *
  generalize hr : w.heap.size = r at *
  have HR := Lib.hid hr
  have HK1 := Lib.hid hk1
  have HE1 := Lib.hid a7
  have z0 := cell_whole b3 0
  have zl := lt_whole b3
  simp only [List.getElem?_toArray, List.getElem?_cons_zero] at z0
  have hrx : r ∉ [X.d, X.own] ∧ r + 1 ∉ [X.d, X.own] ∧ r + 1 + 1 ∉ [X.d, X.own] ∧ r + 1 + 1 + 1 ∉ [X.d, X.own] ∧ r + 1 + 1 + 1 + 1 ∉ [X.d, X.own] := by simp; omega
  have HG := Lib.hid (guard_walk HOK.out (H.out.still hk1) nd pl (r + 1) (r + 1 + 1) r (r + 1 + 1 + 1) (r + 1 + 1 + 1 + 1) hnd1 hp1 (fun w2 hk2 => make1_walk HOK.out (H.out.still (hk1.trans hk2 (by simp))) nd pl (r + 1) (r + 1 + 1) r (r + 1 + 1 + 1) (hk2.keep hnd1 (by simp)) (hk2.keep hp1 (by simp)) (hk2.keep b4 (by simp)) (hk2.keep b5 (by simp)) (hk2.keep b3 (by simp)) (hk2.keep b6 (by simp)) hb hN hn hs1 h0 hs2 ⟨hno.1, hno.2, hrx.1, hrx.2.2.2.1⟩ (by omega)))
  clear hk1 a7 b3 b4 b5 b6 hnd1 hp1 hr
  go_wp2_with fail
  refine HG.out.mono ?_
  rintro e w2 ⟨rfl, hr2, ht2, hk2⟩
  have he2 := hk2.keep HE1.out (by simp; omega)
  have r0 := cell_whole hr2 0
  have rf := frozen_whole hr2 0
  have rl := lt_whole hr2
  have s1 := set_whole (i := 0) hr2 (.int .i64 1)
  have e0 := cell_whole he2 0
  have e0' : (w2.setCell ⟨r + 1 + 1 + 1, 0, none⟩ (.int .i64 1)).cell? ⟨r + 1 + 1 + 1 + 1, 0, none⟩ = some (.int .i64 0) := cell_whole (set_other he2 (by show r + 1 + 1 + 1 ≠ r + 1 + 1 + 1 + 1; omega)) 0
  have el := lt_whole he2
  have ef := frozen_whole he2 0
  have s2 := set_other (p := ⟨r + 1 + 1 + 1 + 1, 0, none⟩) (v := .int .i64 0) s1 (by show r + 1 + 1 + 1 + 1 ≠ r + 1 + 1 + 1; omega)
  simp only [List.getElem?_toArray, List.getElem?_cons_zero] at r0 e0
  go_wp2
  go_region
  have hks : Kept [r + 1 + 1 + 1] w2 (w2.setCell ⟨r + 1 + 1 + 1, 0, none⟩ (.int .i64 1)) := (Kept.refl _ _).setCell _ _ (.inl (by simp))
  have hks2 : Kept [r + 1 + 1 + 1 + 1] (w2.setCell ⟨r + 1 + 1 + 1, 0, none⟩ (.int .i64 1)) ((w2.setCell ⟨r + 1 + 1 + 1, 0, none⟩ (.int .i64 1)).setCell ⟨r + 1 + 1 + 1 + 1, 0, none⟩ (.int .i64 0)).drew := ((Kept.refl _ _).setCell _ _ (.inl (by simp))).drew
  have ht3 := ht2.other HOK.out hr2 (by decide) hks (by omega)
  have he3 : (w2.setCell ⟨r + 1 + 1 + 1, 0, none⟩ (.int .i64 1)).heap[r + 1 + 1 + 1 + 1]? = some (.cells #[.int .i64 0] 24 (0, 0)) := set_other he2 (by show r + 1 + 1 + 1 ≠ r + 1 + 1 + 1 + 1; omega)
  have ht4 := ht3.other HOK.out he3 (by decide) hks2 (by omega)
  have HS2 := Lib.hid s2
  have HC7 := Lib.hid (cell_whole (set_whole (i := 0) he3 (.int .i64 0)) 0)
  have HEND := Lib.hid (show MakePost X n m w (.returned (.tuple #[.int .i64 1, .int .i64 0])) ((w2.setCell ⟨r + 1 + 1 + 1, 0, none⟩ (.int .i64 1)).setCell ⟨r + 1 + 1 + 1 + 1, 0, none⟩ (.int .i64 0)).drew from ⟨rfl, ht4,
    (((HK1.out.mono (G := [X.d, X.own]) (by simp)).trans hk2 (by simp [HR.out]; omega)).trans hks (by simp [HR.out]; omega)).trans hks2 (by simp [HR.out]; omega)⟩)
  clear hks hks2 ht3 ht4 he3 ht2 hk2 s1 s2 e0 e0' ef rf r0 el rl he2 hr2
  go_wp2
  refine bodyPost_ret (res23 _ _ (r + 1 + 1 + 1) (r + 1 + 1 + 1 + 1) _ _ rfl rfl (cell_whole HS2.out 0) HC7.out) rfl ?_
  exact HEND.out
end
end Go.Proofs.YtikfphojehgpjaaGreatDoor
