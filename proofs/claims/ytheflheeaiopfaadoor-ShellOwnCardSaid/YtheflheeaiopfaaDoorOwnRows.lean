/- Many lists of words of the call's own, no two in one block. Plain lemmas on the heap; no function walked. -/
import Derived.Test.YtheflheeaiopfaaDoorOwnMarked
namespace Go.Proofs.YtheflheeaiopfaaDoor
open Go.RowKit Vl
set_option linter.unusedVariables false

structure Rows' (w : World) (B : Nat) (L : List (Value × List (List UInt8))) : Prop where
  own : ∀ i (h : i < L.length), Own w B 9 L[i].1 L[i].2.length (scells L[i].2)
  apart : ∀ i j (hi : i < L.length) (hj : j < L.length), i ≠ j → ∀ k, L[i].1.ownBlock = some k → L[j].1.ownBlock ≠ some k

section
variable {w w' : World} {B : Nat} {L : List (Value × List (List UInt8))}

theorem Rows'.keep (h : Rows' w B L) (hk : ∀ i (hi : i < L.length) k, L[i].1.ownBlock = some k → w'.heap[k]? = w.heap[k]?) : Rows' w' B L :=
  ⟨fun i hi => (h.own i hi).keep (hk i hi), h.apart⟩
theorem Rows'.lt (h : Rows' w B L) {i : Nat} (hi : i < L.length) {k : Nat} (hk : L[i].1.ownBlock = some k) : B ≤ k ∧ k < w.heap.size := by
  have := (h.own i hi).block hk
  exact ⟨this.1, this.2.1⟩
theorem Rows'.below (h : Rows' w B L) (hb : Below w.heap.size w w') : Rows' w' B L := h.keep fun i hi k hk => hb.block k (h.lt hi hk).2
theorem Rows'.alloc (h : Rows' w B L) (o : Obj) : Rows' (w.alloc o) B L := h.keep fun i hi k hk => Below.heap_alloc w o k (h.lt hi hk).2
theorem Rows'.drew (h : Rows' w B L) : Rows' w.drew B L := h.keep fun _ _ _ _ => rfl
/-- A row's block holds strings: another row's (of another type) turns nothing of it. -/
theorem Rows'.ne (h : Rows' w B L) {i : Nat} (hi : i < L.length) {k : Nat} (hk : L[i].1.ownBlock = some k) {cs : Array Value} {e : TypeId} {fr : Nat × Nat} {g : Nat} (hg : w.heap[g]? = some (.cells cs e fr)) (he : e ≠ 9) : k ≠ g := by
  obtain ⟨_, _, cur, hcur⟩ := (h.own i hi).block hk
  rintro rfl
  rw [hg] at hcur
  cases hcur
  exact he rfl
theorem Rows'.grown (h : Rows' w B L) {row : Option Nat} (hg : w.grownBy w' row) (hne : ∀ i (hi : i < L.length) k, L[i].1.ownBlock = some k → row ≠ some k) : Rows' w' B L :=
  h.keep fun i hi k hk => hg.block k (h.lt hi hk).2 (fun e => hne i hi k hk e.symm)
theorem Rows'.nil (w : World) (B : Nat) : Rows' w B [] := ⟨fun i hi => by simp at hi, fun i j hi => by simp at hi⟩

theorem Rows'.snoc (h : Rows' w B L) {C : Nat} {v : Value} {xs : List (List UInt8)} (hv : Own w C 9 v xs.length (scells xs)) (hBC : B ≤ C) (hnew : ∀ i (hi : i < L.length) k, L[i].1.ownBlock = some k → k < C) : Rows' w B (L ++ [(v, xs)]) := by
  have last : ∀ i (hi : i < (L ++ [(v, xs)]).length), ¬ i < L.length → i = L.length := fun i hi hn => by simp at hi; omega
  refine ⟨fun i hi => ?_, fun i j hi hj hij k hk => ?_⟩
  · by_cases hl : i < L.length
    · rw [List.getElem_append_left hl]; exact h.own i hl
    · have := last i hi hl; subst this
      rw [List.getElem_append_right (Nat.le_refl _)]
      simp only [Nat.sub_self, List.getElem_cons_zero]
      exact Own.down hv hBC
  · by_cases hl : i < L.length
    · rw [List.getElem_append_left hl] at hk
      by_cases hl2 : j < L.length
      · rw [List.getElem_append_left hl2]; exact h.apart i j hl hl2 hij k hk
      · have := last j hj hl2; subst this
        rw [List.getElem_append_right (Nat.le_refl _)]
        simp only [Nat.sub_self, List.getElem_cons_zero]
        intro e
        have h1 := (hv.block e).1
        have h2 := hnew i hl k hk
        omega
    · have := last i hi hl; subst this
      rw [List.getElem_append_right (Nat.le_refl _)] at hk
      simp only [Nat.sub_self, List.getElem_cons_zero] at hk
      by_cases hl2 : j < L.length
      · rw [List.getElem_append_left hl2]
        intro e
        have h1 := (hv.block hk).1
        have h2 := hnew j hl2 k e
        omega
      · exact absurd (last j hj hl2).symm hij

/-- One cell of an own row is stored. -/
theorem own_store {g n c j : Nat} {xs : List (List UInt8)} {y : List UInt8} (h : Own w B 9 (.slice (some ⟨g, 0, none⟩) n c) n (scells xs)) (hj : j < n) :
    Own (w.setCell ⟨g, j, none⟩ (.string (strOf y))) B 9 (.slice (some ⟨g, 0, none⟩) n c) n (scells (xs.set j y)) := by
  have hlen : xs.length = n := by have := h.len; rw [scells_length] at this; exact this
  rcases h.2 with ⟨hv, _⟩ | ⟨g', cap, cur, hv, hb, hg, hnc, hm, hcs, ht⟩
  · cases hv
  · cases hv
    refine ⟨by rw [scells_length, List.length_set, hlen]; omega, .inr ⟨g, c, cur.setIfInBounds j (.string (strOf y)), rfl, hb, set_whole hg _, hnc, hm, by simpa using hcs, ?_⟩⟩
    rw [Array.toList_setIfInBounds, Nat.mul_one]
    rw [Nat.mul_one] at ht
    rw [List.take_set, ht]
    unfold scells
    rw [List.map_set]

theorem Rows'.store (h : Rows' w B L) {i : Nat} (hi : i < L.length) {g n c j : Nat} {y : List UInt8} (hv : L[i].1 = .slice (some ⟨g, 0, none⟩) n c) (hj : j < L[i].2.length) :
    Rows' (w.setCell ⟨g, j, none⟩ (.string (strOf y))) B (L.set i (L[i].1, L[i].2.set j y)) := by
  have hown := h.own i hi
  have hblk : L[i].1.ownBlock = some g := by rw [hv]; rfl
  refine ⟨fun a ha => ?_, fun a b ha hb hab k hk => ?_⟩
  · rw [List.length_set] at ha
    by_cases hai : a = i
    · subst hai
      rw [List.getElem_set_self]
      simp only [List.length_set]
      have hn : n = L[a].2.length := by
        rcases hown.2 with ⟨e, _⟩ | ⟨g', cap, cur, e, _⟩
        · rw [hv] at e; cases e
        · rw [hv] at e; cases e; rfl
      rw [hv] at hown ⊢
      subst hn
      exact own_store hown hj
    · rw [List.getElem_set_ne (Ne.symm hai)]
      exact ownsRow_setCell_other (h.own a ha) (fun e => h.apart a i ha hi hai g e hblk) _
  · rw [List.length_set] at ha hb
    have e1 : ∀ x (hx : x < L.length), ((L.set i (L[i].1, L[i].2.set j y))[x]'(by rw [List.length_set]; exact hx)).1 = L[x].1 := fun x hx => by
      by_cases hxi : x = i
      · subst hxi; rw [List.getElem_set_self]
      · rw [List.getElem_set_ne (Ne.symm hxi)]
    rw [e1 a ha] at hk
    rw [e1 b hb]
    exact h.apart a b ha hb hab k hk
end
end Go.Proofs.YtheflheeaiopfaaDoor
