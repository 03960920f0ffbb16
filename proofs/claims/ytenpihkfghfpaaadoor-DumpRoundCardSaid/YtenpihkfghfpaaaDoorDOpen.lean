/- Items and changes that came in, opened. -/
import Derived.Test.YtenpihkfghfpaaaDoorDListed
import Derived.ChangeMaps5
import Derived.ChangeSlices
import Derived.Deep.Slices
import Derived.Deep.Fields
namespace Go.Proofs.YtenpihkfghfpaaaDoor
open Go.ChangeShapes Go.WideShapes Go.RowKit Go.Deep Vl
set_option linter.unusedVariables false
section
variable {H : Type} {enc : TypeId × Value → H} {W : World}

theorem cells5 : Tryd.prog.cellsOf 5 = 1 := by kernel_rfl
theorem cells49 : Tryd.prog.cellsOf 49 = 2 := by kernel_rfl
theorem cells47 : Tryd.prog.cellsOf 47 = 6 := by kernel_rfl
theorem cells39 : Tryd.prog.cellsOf 39 = 5 := by kernel_rfl
theorem cells3 : Tryd.prog.cellsOf 3 = 1 := by kernel_rfl
theorem cells4 : Tryd.prog.cellsOf 4 = 1 := by kernel_rfl
theorem cells9 : Tryd.prog.cellsOf 9 = 1 := by kernel_rfl
theorem cells45 : Tryd.prog.cellsOf 45 = 1 := by kernel_rfl
theorem cells24 : Tryd.prog.cellsOf 24 = 1 := by kernel_rfl
theorem bytes5 : Tryd.prog.bytesOf 5 = 1 := by kernel_rfl
theorem bytes49 : Tryd.prog.bytesOf 49 = 16 := by kernel_rfl
theorem bytes47 : Tryd.prog.bytesOf 47 = 96 := by kernel_rfl

theorem cell_lt {w : World} {a : Addr} {v : Value} (h : w.cell? a = some v) : a.block < w.heap.size := by
  rcases Nat.lt_or_ge a.block w.heap.size with h' | h'
  · exact h'
  · exfalso
    have : w.heap[a.block]? = none := Array.getElem?_eq_none h'
    unfold World.cell? at h
    rw [this] at h
    split at h <;> simp_all
theorem plain_add {b off i : Nat} : (⟨b, off, none⟩ : Addr).add i = ⟨b, off + i, none⟩ := by unfold Addr.add; split <;> simp_all
/-- One cell behind a place that reads. -/
theorem spot_none {w : World} {a : Addr} {v : Value} (h : w.cell? (a.add 0) = some v) : ∃ b off, a = ⟨b, off, none⟩ ∧ b < w.heap.size := by
  obtain ⟨b, off, spot⟩ := a
  have hspot : spot = none := by simpa [Addr.add] using World.cell?_spot h
  subst hspot
  refine ⟨b, off, rfl, ?_⟩
  have := cell_lt h
  simpa [plain_add] using this
theorem two_of {α : Type} {l : List α} (h : l.length = 2) : ∃ a b, l = [a, b] := by match l, h with | [a, b], _ => exact ⟨a, b, rfl⟩
theorem five_of {α : Type} {l : List α} (h : l.length = 5) : ∃ a b c d e, l = [a, b, c, d, e] := by match l, h with | [a, b, c, d, e], _ => exact ⟨a, b, c, d, e, rfl⟩
theorem six_of {α : Type} {l : List α} (h : l.length = 6) : ∃ a b c d e f, l = [a, b, c, d, e, f] := by match l, h with | [a, b, c, d, e, f], _ => exact ⟨a, b, c, d, e, f, rfl⟩
theorem wf_i64 {n : Int} (h : (Lit.int .i64 n).wf = true) : I64 n := by
  simp only [Lit.wf, Bool.and_eq_true, decide_eq_true_eq] at h
  exact h

/-- One field of a struct, where it is one cell. -/
theorem field_at {fs : Array Field} {n : Nat} {us : List Value} {ys : List (DataW H × List MemPlace)} (hfl : ∀ (i : Nat) (f : Field), fs[i]? = some f → DataW.trod enc Tryd.prog W 0 (fun _ => true) true n f.type ((us.drop f.offset).take (Tryd.prog.cellsOf f.type)) = ys[i]?)
    (i off ty : Nat) (hf : ∃ f, fs[i]? = some f ∧ f.offset = off ∧ f.type = ty) (hc : Tryd.prog.cellsOf ty = 1) : DataW.trod enc Tryd.prog W 0 (fun _ => true) true n ty ((us.drop off).take 1) = ys[i]? := by
  obtain ⟨f, h1, h2, h3⟩ := hf
  have := hfl i f h1
  rwa [h2, h3, hc] at this

/-- A slice of bytes. -/
theorem bytes_in {v : Value} {fuel : Nat} {x : DataW H × List MemPlace} (hf : DataW.trod enc Tryd.prog W 0 (fun _ => true) true fuel 24 [v] = some x) :
    ∃ (l : List UInt8) (a : Option Addr) (c : Nat), v = .slice a l.length c ∧ BytesAt W a l ∧ ∀ R, (∀ n ∈ DataW.weights Tryd.prog 24 x.1, n ≤ R) → l.length ≤ R := by
  rcases open_ints Tryd.underlying24 Tryd.underlying5 cells5 hf with ⟨hcs, hx⟩ | ⟨a, len, cap, zs, hcs, _, hl, hm, hz, hx, hcell, hwz⟩
  · obtain rfl : v = .slice none 0 0 := by simpa using hcs
    exact ⟨[], none, 0, rfl, fun i hi => by simp at hi, fun R _ => by simp⟩
  · obtain rfl : v = .slice (some a) len cap := by simpa using hcs
    simp only [if_true] at hz
    have hlen : ((zs.take len).map fun z => UInt8.ofNat z.toNat).length = len := by rw [List.length_map, List.length_take]; omega
    refine ⟨(zs.take len).map fun z => UInt8.ofNat z.toNat, some a, cap, by rw [hlen], ?_, ?_⟩
    · intro i hi
      rw [hlen] at hi
      have hc := hcell i (by omega)
      obtain ⟨b, off, rfl, hb⟩ := spot_none (hcell 0 (by omega))
      rw [plain_add] at hc
      refine ⟨b, off, rfl, hb, ?_⟩
      rw [hc]
      have hz' : i < zs.length := by omega
      have hg : zs.getD i 0 = zs[i] := by simp [List.getD, hz']
      have hw := hwz zs[i] (List.getElem_mem hz')
      simp only [Lit.wf, Bool.and_eq_true, decide_eq_true_eq] at hw
      have h0 : (0 : Int) ≤ zs[i] := hw.1
      have h1 : zs[i] ≤ 255 := hw.2
      rw [hg, List.getElem_map, List.getElem_take]
      congr 2
      rw [UInt8.toNat_ofNat']
      omega
    · intro R hR
      rw [hlen]
      rw [hx] at hR
      have := hR ((zs.take len).length + (zs.drop len).length) (by
        unfold DataW.weights
        simp only [Tryd.underlying24]
        rw [bytes5]
        simp [lits])
      rw [List.length_take, List.length_drop] at this
      omega

/-- A slice of runs. -/
theorem runs_in {v : Value} {fuel : Nat} {x : DataW H × List MemPlace} (hf : DataW.trod enc Tryd.prog W 0 (fun _ => true) true fuel 45 [v] = some x) :
    ∃ (l : List (Int × Int)) (a : Option Addr) (c : Nat), v = .slice a l.length c ∧ RunsAt W a l ∧ (∀ r ∈ l, I64 r.1 ∧ I64 r.2) ∧ ∀ R, (∀ n ∈ DataW.weights Tryd.prog 45 x.1, n ≤ R) → l.length * 16 ≤ R := by
  rcases open_slice Tryd.underlying45 hf with ⟨hcs, hx⟩ | ⟨a, len, cap, m, n, D, Pl, hcs, _, hl, hm, hmm, hx, hi⟩
  · obtain rfl : v = .slice none 0 0 := by simpa using hcs
    exact ⟨[], none, 0, rfl, fun i hi => by simp at hi, by simp, fun R _ => by simp⟩
  · obtain rfl : v = .slice (some a) len cap := by simpa using hcs
    simp only [if_true] at hmm
    subst hmm
    rw [cells49] at hi hx
    obtain ⟨F, hF⟩ := choose_lt (n := len) (α := Int × Int) (p := fun i r => W.cell? (a.add (i * 2)) = some (.int .i64 r.1) ∧ W.cell? (a.add (i * 2 + 1)) = some (.int .i64 r.2) ∧ I64 r.1 ∧ I64 r.2) (fun i hil => by
      obtain ⟨cs', hc, ht⟩ := hi i (by omega)
      obtain ⟨_, hcl, hat⟩ := World.cells?_some hc
      obtain ⟨ys, n', _, _, _, hyl, hfl⟩ := DataW.trod_struct Tryd.underlying49 ht
      obtain ⟨u0, u1, rfl⟩ := two_of hcl
      · have hy2 : ys.length = 2 := hyl
        obtain ⟨y0, y1, rfl⟩ := two_of hy2
        have g0 : DataW.trod enc Tryd.prog W 0 (fun _ => true) true n' 3 [u0] = some y0 := field_at hfl 0 0 3 ⟨_, rfl, rfl, rfl⟩ cells3
        have g1 : DataW.trod enc Tryd.prog W 0 (fun _ => true) true n' 3 [u1] = some y1 := field_at hfl 1 1 3 ⟨_, rfl, rfl, rfl⟩ cells3
        obtain ⟨n0, e0, _, w0⟩ := DataW.trod_int Tryd.underlying3 g0
        obtain ⟨n1, e1, _, w1⟩ := DataW.trod_int Tryd.underlying3 g1
        obtain rfl : u0 = .int .i64 n0 := by simpa using e0
        obtain rfl : u1 = .int .i64 n1 := by simpa using e1
        have h0 := hat 0 (by omega)
        have h1 := hat 1 (by omega)
        rw [add_add] at h0 h1
        rw [Nat.add_zero] at h0
        exact ⟨(n0, n1), h0, h1, wf_i64 w0, wf_i64 w1⟩)
    have hlen : ((List.range len).map F).length = len := by simp
    refine ⟨(List.range len).map F, some a, m, by rw [hlen], ?_, ?_, ?_⟩
    · intro i hil
      rw [hlen] at hil
      obtain ⟨h0, h1, _, _⟩ := hF i hil
      obtain ⟨b, off, rfl, hb⟩ := spot_none (by have := (hF 0 (by omega)).1; rwa [Nat.zero_mul] at this)
      rw [plain_add] at h0 h1
      have hg : ((List.range len).map F)[i]'(by rw [hlen]; exact hil) = F i := by simp
      exact ⟨b, off, rfl, hb, by rw [hg]; exact h0, by rw [hg, Nat.add_assoc]; exact h1⟩
    · intro r hr
      obtain ⟨i, hir, rfl⟩ := List.mem_map.1 hr
      have := hF i (List.mem_range.1 hir)
      exact ⟨this.2.2.1, this.2.2.2⟩
    · intro R hR
      rw [hlen]
      rw [hx] at hR
      have := hR ((len + (m - len)) * 16) (by
        unfold DataW.weights
        simp only [Tryd.underlying45]
        rw [bytes49]
        simp)
      omega

set_option maxRecDepth 100000
/-- What an item's cells must be. -/
def ItemIn (W : World) (us : List Value) (x : Itm) : Prop := ∃ ra rc da dc, us = [.int .i64 x.kind, .string (strOf x.path), .string (strOf x.target), .int .i64 x.size, .slice ra x.runs.length rc, .slice da x.data.length dc] ∧ RunsAt W ra x.runs ∧ BytesAt W da x.data
/-- An item. -/
theorem item_in {us : List Value} {fuel : Nat} {y : DataW H × List MemPlace} (hf : DataW.trod enc Tryd.prog W 0 (fun _ => true) true fuel 47 us = some y) (hw : ∀ n ∈ DataW.weights Tryd.prog 47 y.1, n ≤ reachBytes) :
    ∃ x : Itm, ItemIn W us x ∧ SizeItm x := by
  obtain ⟨ys, n', _, hy, hcl, hyl, hfl⟩ := DataW.trod_struct Tryd.underlying47 hf
  rw [cells47] at hcl
  obtain ⟨u0, u1, u2, u3, u4, u5, rfl⟩ := six_of hcl
  obtain ⟨y0, y1, y2, y3, y4, y5, rfl⟩ := six_of (show ys.length = 6 from hyl)
  have g0 : DataW.trod enc Tryd.prog W 0 (fun _ => true) true n' 3 [u0] = some y0 := field_at hfl 0 0 3 ⟨_, rfl, rfl, rfl⟩ cells3
  have g1 : DataW.trod enc Tryd.prog W 0 (fun _ => true) true n' 9 [u1] = some y1 := field_at hfl 1 1 9 ⟨_, rfl, rfl, rfl⟩ cells9
  have g2 : DataW.trod enc Tryd.prog W 0 (fun _ => true) true n' 9 [u2] = some y2 := field_at hfl 2 2 9 ⟨_, rfl, rfl, rfl⟩ cells9
  have g3 : DataW.trod enc Tryd.prog W 0 (fun _ => true) true n' 3 [u3] = some y3 := field_at hfl 3 3 3 ⟨_, rfl, rfl, rfl⟩ cells3
  have g4 : DataW.trod enc Tryd.prog W 0 (fun _ => true) true n' 45 [u4] = some y4 := field_at hfl 4 4 45 ⟨_, rfl, rfl, rfl⟩ cells45
  have g5 : DataW.trod enc Tryd.prog W 0 (fun _ => true) true n' 24 [u5] = some y5 := field_at hfl 5 5 24 ⟨_, rfl, rfl, rfl⟩ cells24
  obtain ⟨k, e0, _, w0⟩ := DataW.trod_int Tryd.underlying3 g0
  obtain ⟨p, e1, x1, w1⟩ := DataW.trod_string Tryd.underlying9 g1
  obtain ⟨t, e2, x2, w2⟩ := DataW.trod_string Tryd.underlying9 g2
  obtain ⟨s, e3, _, w3⟩ := DataW.trod_int Tryd.underlying3 g3
  obtain ⟨rs, ra, rc, e4, hr, hri, hrw⟩ := runs_in g4
  obtain ⟨dt, da, dc, e5, hd, hdw⟩ := bytes_in g5
  obtain rfl : u0 = .int .i64 k := by simpa using e0
  obtain rfl : u1 = .string p := by simpa using e1
  obtain rfl : u2 = .string t := by simpa using e2
  obtain rfl : u3 = .int .i64 s := by simpa using e3
  subst e4
  subst e5
  have hy1 : y.1 = .agg [y0.1, y1.1, y2.1, y3.1, y4.1, y5.1] := by rw [hy]; rfl
  have hwe : DataW.weights Tryd.prog 47 y.1 = DataW.weights Tryd.prog 3 y0.1 ++ (DataW.weights Tryd.prog 9 y1.1 ++ (DataW.weights Tryd.prog 9 y2.1 ++ (DataW.weights Tryd.prog 3 y3.1 ++ (DataW.weights Tryd.prog 45 y4.1 ++ (DataW.weights Tryd.prog 24 y5.1 ++ []))))) := by
    rw [hy1]
    conv => lhs; unfold DataW.weights
    simp only [Tryd.underlying47]
    rfl
  rw [hwe] at hw
  refine ⟨{ kind := k, path := p.data.toList, target := t.data.toList, size := s, runs := rs, data := dt }, ⟨ra, rc, da, dc, rfl, hr, hd⟩, wf_i64 w0, wf_i64 w3, ?_, ?_, hrw _ fun n hn => hw n (by simp [hn]), hdw _ fun n hn => hw n (by simp [hn]), hri⟩
  · show p.data.toList.length ≤ maxLen
    rw [Array.length_toList]; exact w1
  · show t.data.toList.length ≤ maxLen
    rw [Array.length_toList]; exact w2
/-- A slice of items. -/
theorem items_in {v : Value} {fuel : Nat} {x : DataW H × List MemPlace} (hf : DataW.trod enc Tryd.prog W 0 (fun _ => true) true fuel 22 [v] = some x) (hw : ∀ n ∈ DataW.weights Tryd.prog 22 x.1, n ≤ reachBytes) :
    ∃ (L : List Itm) (a : Option Addr) (c : Nat), v = .slice a L.length c ∧ ItemsAt W a L ∧ SizeAll L ∧ L.length * 96 ≤ 140737488351232 := by
  rcases open_slice Tryd.underlying22 hf with ⟨hcs, hx⟩ | ⟨a, len, cap, m, n, D, Pl, hcs, _, hl, hm, hmm, hx, hi⟩
  · obtain rfl : v = .slice none 0 0 := by simpa using hcs
    exact ⟨[], none, 0, rfl, fun i hi => by simp at hi, ⟨by simp, by simp⟩, by simp⟩
  · obtain rfl : v = .slice (some a) len cap := by simpa using hcs
    simp only [if_true] at hmm
    subst hmm
    rw [cells47] at hi hx
    have hwe : DataW.weights Tryd.prog 22 x.1 = (((List.range len).map D).length + ((List.range (m - len)).map fun j => D (len + j)).length) * 96 :: (DataW.weightsAll Tryd.prog 47 ((List.range len).map D) ++ DataW.weightsAll Tryd.prog 47 ((List.range (m - len)).map fun j => D (len + j))) := by
      rw [hx]
      conv => lhs; unfold DataW.weights
      simp only [Tryd.underlying22]
      rw [bytes47]
    rw [hwe] at hw
    have hbig := hw _ (List.mem_cons_self ..)
    simp only [List.length_map, List.length_range] at hbig
    have hall : ∀ (l : List (DataW H)), (∀ d ∈ l, ∀ n ∈ DataW.weights Tryd.prog 47 d, n ∈ DataW.weightsAll Tryd.prog 47 l) := by
      intro l
      induction l with
      | nil => intro d hd; simp at hd
      | cons e l ih =>
        intro d hd n hn
        rw [DataW.weightsAll, List.mem_append]
        rcases List.mem_cons.1 hd with rfl | hd
        · exact .inl hn
        · exact .inr (ih d hd n hn)
    obtain ⟨F, hF⟩ := choose_lt (n := len) (α := Itm) (p := fun i x => (∃ us, W.cells? 0 (a.add (i * 6)) 6 = some us ∧ ItemIn W us x) ∧ SizeItm x) (fun i hil => by
      obtain ⟨cs', hc, ht⟩ := hi i (by omega)
      obtain ⟨x, h1, h2⟩ := item_in ht (fun n hn => hw n (List.mem_cons_of_mem _ (List.mem_append_left _ (hall _ (D i) (List.mem_map.2 ⟨i, List.mem_range.2 hil, rfl⟩) n hn))))
      exact ⟨x, ⟨cs', hc, h1⟩, h2⟩)
    have hlen : ((List.range len).map F).length = len := by simp
    have hrb : reachBytes = 140737488351232 := rfl
    rw [hrb] at hbig
    refine ⟨(List.range len).map F, some a, m, by rw [hlen], ?_, ⟨by rw [hlen]; omega, ?_⟩, by rw [hlen]; omega⟩
    · intro i hil
      rw [hlen] at hil
      obtain ⟨⟨us, hc, ra, rc, da, dc, rfl, hr, hd⟩, _⟩ := hF i hil
      obtain ⟨_, _, hat⟩ := World.cells?_some hc
      have hg : ((List.range len).map F)[i]'(by rw [hlen]; exact hil) = F i := by simp
      obtain ⟨⟨us0, hc0, _⟩, _⟩ := hF 0 (by omega)
      obtain ⟨_, hcl0, hat0⟩ := World.cells?_some hc0
      have h00 := hat0 0 (by omega)
      rw [add_add, List.getElem?_eq_getElem (by omega)] at h00
      obtain ⟨b, off, rfl, hb⟩ := spot_none (by simpa using h00)
      have k0 := hat 0 (by omega)
      have k1 := hat 1 (by omega)
      have k2 := hat 2 (by omega)
      have k3 := hat 3 (by omega)
      have k4 := hat 4 (by omega)
      have k5 := hat 5 (by omega)
      rw [add_add, plain_add] at k0 k1 k2 k3 k4 k5
      simp only [List.getElem?_cons_zero, List.getElem?_cons_succ] at k0 k1 k2 k3 k4 k5
      rw [hg]
      exact ⟨b, off, ra, rc, da, dc, rfl, hb, k0, k1, k2, k3, k4, k5, hr, hd⟩
    · intro y hy
      obtain ⟨i, hir, rfl⟩ := List.mem_map.1 hy
      exact (hF i (List.mem_range.1 hir)).2
end
end Go.Proofs.YtenpihkfghfpaaaDoor
