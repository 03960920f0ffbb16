/- seal: Seal. -/
import Derived.Test.YtikfphojehgpjaaGreatDoorM12
import Derived.Deep.RegionHeld3
import Derived.RegionTactic
set_option linter.unusedSimpArgs false
set_option linter.unusedVariables false
namespace Go.Proofs.YtikfphojehgpjaaGreatDoor
open Go.RowKit Vl
set_option linter.unusedVariables false

theorem setCells_whole {t : TypeId} (g : Nat) : ∀ (vs : List Value) (o : Nat) (w : World) (cur : Array Value), w.heap[g]? = some (.cells cur t (0, 0)) → o + vs.length ≤ cur.size →
    (w.setCells g o vs).heap[g]? = some (.cells (cur.toList.take o ++ vs ++ cur.toList.drop (o + vs.length)).toArray t (0, 0))
  | [], o, w, cur, h, hl => by
    rw [World.setCells, h]
    simp
  | v :: vs, o, w, cur, h, hl => by
    rw [World.setCells, setCells_whole g vs (o + 1) _ _ (set_whole (i := o) h v) (by simp at hl ⊢; omega)]
    congr 2
    have hl' : o < cur.toList.length := by simp at hl ⊢; omega
    have e1 : (cur.setIfInBounds o v).toList = cur.toList.set o v := by simp
    rw [e1, List.drop_set_of_lt (by omega), List.take_set, List.take_succ_eq_append_getElem hl', List.set_append_right _ _ (by rw [List.length_take]; omega), List.length_take, Nat.min_eq_left (by omega), Nat.sub_self, List.set_cons_zero]
    simp only [List.length_cons, List.append_assoc, List.cons_append, List.nil_append]
    rw [show o + 1 + vs.length = o + (vs.length + 1) by omega]
theorem Kept.setCells {F : List Nat} {a : World} (g : Nat) (hp : g ∈ F ∨ a.heap.size ≤ g) : ∀ (vs : List Value) (o : Nat) (w : World), Kept F a w → Kept F a (w.setCells g o vs)
  | [], _, _, h => h
  | v :: vs, o, w, h => Kept.setCells g hp vs (o + 1) _ (h.setCell ⟨g, o, none⟩ v hp)
theorem setCells_bytes {w : World} {g t : Nat} {l m : List UInt8} (h : BytesT w g t l) (hm : m.length = l.length) : BytesT (w.setCells g 0 (bcells m)) g t m := by
  unfold BytesT
  rw [setCells_whole g (bcells m) 0 w _ h (by simp; omega)]
  congr 2
  simp [hm]
theorem there_zero {w : World} {g : Nat} (h : w.heap[g]? = some (.cells Tryz.zeroCells299 299 (0, 0))) {S : List UInt8} (hS : S.length = 512) : w.there g 0 (bcells S).length := by
  rw [zero299] at h
  intro j hj
  rw [bcells_length, hS] at hj
  rw [Nat.zero_add, BytesT.cell (w := w) (g := g) (t := 299) (l := zsec) h (by rw [zsec_length]; exact hj)]
  exact ⟨rfl, frozen_whole h j⟩

def SealPost (old body : List UInt8) (w : World) (e : Ending) (w' : World) : Prop := Kept [] w w' ∧ ∃ g, w.heap.size ≤ g ∧ e = .returned (.tuple #[.slice (some ⟨g, 0, none⟩) 512 512, .int .i64 0]) ∧ BytesT w' g 299 (sealOver old body)
set_option maxRecDepth 100000 in
set_option maxHeartbeats 1000000 in
theorem seal_walk (old body : List UInt8) (go oo co ga oa c : Nat) (w : World) (ho : BytesAt w (some ⟨go, oo, none⟩) old) (hol : old.length = 512) (h : BytesAt w (some ⟨ga, oa, none⟩) body) (hl : body.length ≤ 504) :
    Calls Tryz.prog 186 #[.slice (some ⟨go, oo, none⟩) 512 co, .slice (some ⟨ga, oa, none⟩) body.length c] w (SealPost old body w) := by
  have H := Lib.hid h
  have HO := Lib.hid ho
  obtain ⟨_, _, e1, hgo, c0⟩ := ho 0 (by omega)
  obtain ⟨_, _, e2, _, c1⟩ := ho 511 (by omega)
  injection e1 with e1; injection e1 with e3 e4 _; subst e3; subst e4
  injection e2 with e2; injection e2 with e3 e4 _; subst e3; subst e4
  have g0 : old[0] = old.getD 0 0 := by simp [hol]
  have g1 : old[511] = old.getD 511 0 := by simp [hol]
  rw [g0, Nat.add_zero] at c0
  rw [g1] at c1
  have HT := turn_walk (old.getD 0 0) (old.getD 511 0)
  have hso : sealOver old body = sealSec (turnOf (old.getD 0 0) (old.getD 511 0)) body := rfl
  generalize old.getD 0 0 = x at *
  generalize old.getD 511 0 = y at *
  have HTT := Lib.hid HT
  have HSO := Lib.hid hso
  clear hso h ho g0 g1 HT
  obtain ⟨n, hn⟩ : ∃ n, n = body.length := ⟨_, rfl⟩
  rw [← hn] at hl ⊢
  have HN := Lib.hid hn
  clear hn
  go_enter Tryz.func186, Tryz.ntmps186
  go_wp2_with fail
  have hk0 : Kept [] w w.drew := (Kept.refl [] w).drew
  have hk1 : Kept [] w (w.alloc (.cells Tryz.zeroCells299 299)).drew := ((Kept.refl [] w).alloc _).drew
  have c0' : w.drew.cell? ⟨go, oo, none⟩ = some (.int .u8 x.toNat) := c0
  have c1' : w.drew.cell? ⟨go, oo + 511, none⟩ = some (.int .u8 y.toNat) := c1
  have HKK : Hid (∀ w', Kept [] w w' → w'.cell? ⟨go, oo, none⟩ = some (.int .u8 x.toNat) ∧ w'.cell? ⟨go, oo + 511, none⟩ = some (.int .u8 y.toNat) ∧ Kept [] w w') :=
    Lib.hid (fun w' hk => ⟨(cell_kept hk hgo (by simp)).trans c0, (cell_kept hk hgo (by simp)).trans c1, hk⟩)
  have HL : Hid (∀ w0, Kept [] w w0 → Calls Tryz.prog 188 #[.int .u8 (turnOf x y).toNat, .slice (some ⟨ga, oa, none⟩) n c] w0 fun e w' => e = .returned (.agg (bcells (sealSec (turnOf x y) body)).toArray) ∧ Kept [] w0 w' ∧ Kept [] w w') := Lib.hid (by
    intro w0 hk
    rw [HN.out]
    refine (lay_walk (turnOf x y) body ga oa c w0 (H.out.below hk.below) (by rw [← HN.out]; exact hl)).mono ?_
    rintro e w' ⟨rfl, h⟩
    exact ⟨rfl, h, hk.trans h (by simp)⟩)
  have hsl := sealSec_length (turnOf x y) (body := body) (by rw [← HN.out]; exact hl)
  have hsz : (Tryz.prog.info? 299).map (·.size) = some (bcells (sealSec (turnOf x y) body)).length := by rw [size299, bcells_length, hsl]
  have hoc := bcells_oneCell (sealSec (turnOf x y) body)
  rw [← HSO.out] at HL hsl hsz hoc
  generalize hSS : sealOver old body = S at *
  have HSS := Lib.hid hSS
  clear hSS
  have HTH1 := Lib.hid (fun (w' : World) => there_zero (S := S) (heap_alloc_new w' (.cells Tryz.zeroCells299 299)) hsl)
  have HTH2 := Lib.hid (fun (w' : World) (hk : Kept [] (w.alloc (.cells Tryz.zeroCells299 299)).drew w') => there_zero (S := S) (hk.keep (heap_alloc_new w (.cells Tryz.zeroCells299 299)) (by simp)) hsl)
  have HKA := Lib.hid (fun (w' : World) (hk : Kept [] w w') => HKK.out _ (hk.alloc (.cells Tryz.zeroCells299 299)))
  have HKS1 := Lib.hid (fun (w' : World) (hk : Kept [] w w') => HKK.out _ (Kept.setCells w'.heap.size (.inr hk.size) (bcells S) 0 _ (hk.alloc (.cells Tryz.zeroCells299 299))))
  have HKS2 := Lib.hid (fun (w' : World) (hk : Kept [] w w') => HKK.out _ (Kept.setCells w.heap.size (.inr (Nat.le_refl _)) (bcells S) 0 _ hk))
  have HSL := Lib.hid hsl
  clear hsl
  go_region_held3 (fun w' => w'.cell? ⟨go, oo, none⟩ = some (.int .u8 x.toNat) ∧ w'.cell? ⟨go, oo + 511, none⟩ = some (.int .u8 y.toNat) ∧ Kept [] w w')
    (first
      | (with_reducible exact HKK.out _ hk1)
      | (with_reducible exact HKK.out _ hk0)
      | (with_reducible exact HKK.out _ hkw)
      | (with_reducible exact HKA.out _ hk0)
      | (with_reducible exact HKA.out _ hkw)
      | (with_reducible exact HKS1.out _ hkw)
      | (with_reducible exact HKS2.out _ hkw))
    ((first
      | (go_simp; go_at_call 203; refine (HTT.out _).mono ?_; rintro e w' ⟨rfl, rfl⟩)
      | (go_simp; go_at_call 188; first | ((with_reducible refine (HL.out _ hk0).mono ?_); rintro e w' ⟨rfl, hk, hkw⟩; have hth1 := HTH1.out w') | ((with_reducible refine (HL.out _ hk1).mono ?_); rintro e w' ⟨rfl, hk, hkw⟩; have hth2 := HTH2.out w' hk))))
  · have HE := Lib.hid (HKS1.out w' hkw).2.2
    have HB := Lib.hid (setCells_bytes (t := 299) (m := S) (l := zsec) (show BytesT (w'.alloc (.cells Tryz.zeroCells299 299)) w'.heap.size 299 zsec from zero299 ▸ heap_alloc_new w' _) (by rw [HSL.out, zsec_length]))
    have HG := Lib.hid hkw.size
    clear hth1 hkw hk hk0 hk1 c0 c1 c0' c1' hoc hsz
    generalize (w'.alloc (.cells Tryz.zeroCells299 299)).setCells w'.heap.size 0 (bcells S) = W at *
    go_wp2
    go_ret2
    exact ⟨HE.out, _, HG.out, rfl, by rw [HSS.out]; exact HB.out⟩
  all_goals
    have HE := Lib.hid (HKS2.out w' hkw).2.2
    have HB := Lib.hid (setCells_bytes (t := 299) (m := S) (l := zsec) (show BytesT w' w.heap.size 299 zsec from hk.keep (zero299 ▸ heap_alloc_new w (.cells Tryz.zeroCells299 299)) (by simp)) (by rw [HSL.out, zsec_length]))
    clear hth2 hkw hk hk0 hk1 c0 c1 c0' c1' hoc hsz
    generalize w'.setCells w.heap.size 0 (bcells S) = W at *
    go_wp2
    go_ret2
    exact ⟨HE.out, _, Nat.le_refl _, rfl, by rw [HSS.out]; exact HB.out⟩
end Go.Proofs.YtikfphojehgpjaaGreatDoor
