/- Changes that came in, opened. -/
import Derived.Test.YtenpihkfghfpaaaDoorDTabs
namespace Go.Proofs.YtenpihkfghfpaaaDoor
open Go.ChangeShapes Go.WideShapes Go.RowKit Go.Deep Vl
set_option linter.unusedVariables false
section
variable {H : Type} {enc : TypeId × Value → H} {W : World}

def chCells (x : Chg) : List Value := [.int .i64 x.kind, .int .i64 x.at_, .int .i64 x.value, .bool x.back, .bool x.sum]
set_option maxRecDepth 100000
/-- A change. -/
theorem change_in {us : List Value} {fuel : Nat} {y : DataW H × List MemPlace} (hf : DataW.trod enc Tryd.prog W 0 (fun _ => true) true fuel 39 us = some y) : ∃ x : Chg, us = chCells x ∧ x.ok := by
  obtain ⟨ys, n', _, hy, hcl, hyl, hfl⟩ := DataW.trod_struct Tryd.underlying39 hf
  rw [cells39] at hcl
  obtain ⟨u0, u1, u2, u3, u4, rfl⟩ := five_of hcl
  obtain ⟨y0, y1, y2, y3, y4, rfl⟩ := five_of (show ys.length = 5 from hyl)
  have g0 : DataW.trod enc Tryd.prog W 0 (fun _ => true) true n' 3 [u0] = some y0 := field_at hfl 0 0 3 ⟨_, rfl, rfl, rfl⟩ cells3
  have g1 : DataW.trod enc Tryd.prog W 0 (fun _ => true) true n' 3 [u1] = some y1 := field_at hfl 1 1 3 ⟨_, rfl, rfl, rfl⟩ cells3
  have g2 : DataW.trod enc Tryd.prog W 0 (fun _ => true) true n' 3 [u2] = some y2 := field_at hfl 2 2 3 ⟨_, rfl, rfl, rfl⟩ cells3
  have g3 : DataW.trod enc Tryd.prog W 0 (fun _ => true) true n' 4 [u3] = some y3 := field_at hfl 3 3 4 ⟨_, rfl, rfl, rfl⟩ cells4
  have g4 : DataW.trod enc Tryd.prog W 0 (fun _ => true) true n' 4 [u4] = some y4 := field_at hfl 4 4 4 ⟨_, rfl, rfl, rfl⟩ cells4
  obtain ⟨k, e0, _, _⟩ := DataW.trod_int Tryd.underlying3 g0
  obtain ⟨a, e1, _, w1⟩ := DataW.trod_int Tryd.underlying3 g1
  obtain ⟨v, e2, _, _⟩ := DataW.trod_int Tryd.underlying3 g2
  obtain ⟨b, e3, _⟩ := DataW.trod_bool Tryd.underlying4 g3
  obtain ⟨s, e4, _⟩ := DataW.trod_bool Tryd.underlying4 g4
  obtain rfl : u0 = .int .i64 k := by simpa using e0
  obtain rfl : u1 = .int .i64 a := by simpa using e1
  obtain rfl : u2 = .int .i64 v := by simpa using e2
  obtain rfl : u3 = .bool b := by simpa using e3
  obtain rfl : u4 = .bool s := by simpa using e4
  exact ⟨⟨k, a, v, b, s⟩, rfl, wf_i64 w1⟩
/-- A slice of changes. -/
theorem changes_in {v : Value} {fuel : Nat} {x : DataW H × List MemPlace} (hf : DataW.trod enc Tryd.prog W 0 (fun _ => true) true fuel 35 [v] = some x) :
    ∃ (C : List Chg) (a : Option Addr) (c : Nat), v = .slice a C.length c ∧ ChangesAt W a C ∧ (∀ x ∈ C, x.ok) ∧ C.length ≤ maxLen := by
  rcases open_slice Tryd.underlying35 hf with ⟨hcs, hx⟩ | ⟨a, len, cap, m, n, D, Pl, hcs, _, hl, hm, hmm, hx, hi⟩
  · obtain rfl : v = .slice none 0 0 := by simpa using hcs
    exact ⟨[], none, 0, rfl, fun i hi => by simp at hi, by simp, by simp⟩
  · obtain rfl : v = .slice (some a) len cap := by simpa using hcs
    simp only [if_true] at hmm
    subst hmm
    rw [cells39] at hi
    haveI : Inhabited Chg := ⟨⟨0, 0, 0, false, false⟩⟩
    obtain ⟨F, hF⟩ := choose_lt (n := len) (α := Chg) (p := fun i x => W.cells? 0 (a.add (i * 5)) 5 = some (chCells x) ∧ x.ok) (fun i hil => by
      obtain ⟨cs', hc, ht⟩ := hi i (by omega)
      obtain ⟨x, h1, h2⟩ := change_in ht
      exact ⟨x, by rw [← h1]; exact hc, h2⟩)
    have hlen : ((List.range len).map F).length = len := by simp
    refine ⟨(List.range len).map F, some a, m, by rw [hlen], ?_, ?_, by rw [hlen]; omega⟩
    · intro i hil
      rw [hlen] at hil
      obtain ⟨_, _, hat⟩ := World.cells?_some (hF i hil).1
      have hg : ((List.range len).map F)[i]'(by rw [hlen]; exact hil) = F i := by simp
      obtain ⟨_, _, hat0⟩ := World.cells?_some (hF 0 (by omega)).1
      have h00 := hat0 0 (by omega)
      rw [add_add] at h00
      obtain ⟨b, off, rfl, hb⟩ := spot_none (by simpa [chCells] using h00)
      have k0 := hat 0 (by omega)
      have k1 := hat 1 (by omega)
      have k2 := hat 2 (by omega)
      have k3 := hat 3 (by omega)
      have k4 := hat 4 (by omega)
      rw [add_add, plain_add] at k0 k1 k2 k3 k4
      simp only [chCells, List.getElem?_cons_zero, List.getElem?_cons_succ] at k0 k1 k2 k3 k4
      rw [hg]
      exact ⟨b, off, rfl, hb, k0, k1, k2, k3, k4⟩
    · intro y hy
      obtain ⟨i, hir, rfl⟩ := List.mem_map.1 hy
      exact (hF i (List.mem_range.1 hir)).2
/-- A change by value. -/
theorem change_v {r : Reach} {b0 : Nat} {v : Value} {d : DataW H} {p : List MemPlace} (hv : Value.okWide Tryd.prog W r b0 39 v) (h : DataW.Trod enc Tryd.prog W 0 (fun _ => true) true 39 v d p) : ∃ x : Chg, v = .agg (chCells x).toArray ∧ x.ok := by
  obtain ⟨cs, rfl, hsz⟩ := okWide_struct Tryd.underlying39 hv
  obtain ⟨fuel, hf⟩ := h
  have hc : (Value.agg cs).cells.toList = cs.toList := by simp [Value.cells]
  rw [hc] at hf
  obtain ⟨x, h1, h2⟩ := change_in hf
  exact ⟨x, by rw [← h1], h2⟩
end
end Go.Proofs.YtenpihkfghfpaaaDoor
