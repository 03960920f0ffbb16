/- ShellOwn: the lists and what stands in them. Plain lemmas on the heap. -/
import Derived.Test.YtheflheeaiopfaaDoorOwnLong
namespace Go.Proofs.YtheflheeaiopfaaDoor
open Go.RowKit Vl
set_option linter.unusedVariables false

/-- A slice of strings that came in. -/
def StringsAt (w : World) (A : Option Addr) (ls : List ByteArray) : Prop :=
  ∀ i (h : i < ls.length), ∃ G O, A = some ⟨G, O, none⟩ ∧ G < w.heap.size ∧ w.cell? ⟨G, O + i, none⟩ = some (.string ls[i]) ∧ ls[i].size ≤ maxLen
theorem StringsAt.below {w w' : World} {A : Option Addr} {ls : List ByteArray} (h : StringsAt w A ls) (hb : Below w.heap.size w w') : StringsAt w' A ls := by
  intro i hi
  obtain ⟨G, O, h1, h2, h3, h4⟩ := h i hi
  exact ⟨G, O, h1, Nat.lt_of_lt_of_le h2 hb.size, by rw [hb.cell h2]; exact h3, h4⟩

theorem info22 : (Tryd.prog.info? 22).map (fun i => (i.zero, i.size, i.bytes)) = some (some (.slice none 0 0), 1, 24) := by kernel_rfl

/-- The kept lists: the head, then each line's words twice. -/
def keptOf (ls : List ByteArray) (k : Nat) : List (List (List UInt8)) := [[97], [98]] :: (ls.take k).flatMap fun s => [wsOf (bytes s), wsOf (bytes s)]
theorem keptOf_succ {ls : List ByteArray} {k : Nat} (h : k < ls.length) : keptOf ls (k + 1) = keptOf ls k ++ [wsOf (bytes ls[k]), wsOf (bytes ls[k])] := by
  unfold keptOf
  rw [List.take_succ_eq_append_getElem h, List.flatMap_append]
  simp
theorem keptOf_len {ls : List ByteArray} {k : Nat} (h : k ≤ ls.length) : (keptOf ls k).length = 2 * k + 1 := by
  induction k with
  | zero => simp [keptOf]
  | succ k ih => rw [keptOf_succ (by omega), List.length_append, ih (by omega)]; simp; omega

theorem keptOf_bound {ls : List ByteArray} {k : Nat} : ∀ ws ∈ keptOf ls k, ws.length ≤ 65537 := by
  intro ws h
  unfold keptOf at h
  rcases List.mem_cons.1 h with rfl | h
  · decide
  · obtain ⟨s, _, hs⟩ := List.mem_flatMap.1 h
    have : ws = wsOf (bytes s) := by simpa using hs
    rw [this]; exact wsOf_le _

/-- The list of lists, and each list. -/
structure Kept (w : World) (B : Nat) (vk : Value) (L : List (Value × List (List UInt8))) : Prop where
  rows : Rows' w B L
  kept : Own w B 22 vk L.length (L.map (·.1))

theorem Kept.below {w w' : World} {B : Nat} {vk : Value} {L : List (Value × List (List UInt8))} (h : Kept w B vk L) (hb : Below w.heap.size w w') : Kept w' B vk L :=
  ⟨h.rows.below hb, own_kept h.kept hb⟩

/-- Behind an append of a list to the list of lists. -/
theorem Kept.push {w w1 : World} {B C : Nat} {vk vk' v : Value} {L : List (Value × List (List UInt8))} {xs : List (List UInt8)} (h : Kept w B vk L) (hBw : B ≤ w.heap.size)
    (hv : Own w C 9 v xs.length (scells xs)) (hBC : B ≤ C) (hnew : ∀ i (hi : i < L.length) k, L[i].1.ownBlock = some k → k < C)
    (h1 : w1.ownsRow B 22 1 vk' (L.length + 1) (L.map (·.1) ++ [v])) (hg : w.grownBy w1 vk.ownBlock) : Kept w1 B vk' (L ++ [(v, xs)]) ∧ Below B w w1 ∧ ∀ C' v' n' xs', Own w C' 9 v' n' xs' → Own w1 C' 9 v' n' xs' := by
  have hne : ∀ k, vk.ownBlock = some k → ∀ k', (∃ cs, w.heap[k']? = some (Obj.cells cs 9 (0, 0))) → k ≠ k' := by
    rintro k hk k' ⟨cs, hcs⟩ rfl
    obtain ⟨_, _, cur, hcur⟩ := h.kept.block hk
    rw [hcs] at hcur; cases hcur
  have hrow : ∀ k cs, w.heap[k]? = some (Obj.cells cs 9 (0, 0)) → w1.heap[k]? = w.heap[k]? := fun k cs hcs => hg.block k (lt_whole hcs) (fun e => hne k e.symm k ⟨cs, hcs⟩ rfl)
  have hr1 : Rows' w1 B L := h.rows.keep fun i hi k hk => by
    obtain ⟨_, _, cur, hcur⟩ := (h.rows.own i hi).block hk
    exact hrow k cur hcur
  have hv1 : Own w1 C 9 v xs.length (scells xs) := hv.keep fun k hk => by
    obtain ⟨_, _, cur, hcur⟩ := hv.block hk
    exact hrow k cur hcur
  refine ⟨⟨hr1.snoc hv1 hBC hnew, ?_⟩, (Below.refl B w).grown hg hBw (fun k hk => (h.kept.block hk).1), fun C' v' n' xs' hv' => hv'.keep fun k hk => by
    obtain ⟨_, _, cur, hcur⟩ := hv'.block hk
    exact hrow k cur hcur⟩
  rw [List.length_append, List.map_append]
  exact h1

/-- One cell of one of the lists is stored. -/
theorem Kept.store {w : World} {B : Nat} {vk : Value} {L : List (Value × List (List UInt8))} (h : Kept w B vk L) {i : Nat} (hi : i < L.length) {g n c j : Nat} {y : List UInt8} (hv : L[i].1 = .slice (some ⟨g, 0, none⟩) n c) (hj : j < L[i].2.length) :
    Kept (w.setCell ⟨g, j, none⟩ (.string (strOf y))) B vk (L.set i (L[i].1, L[i].2.set j y)) := by
  refine ⟨h.rows.store hi hv hj, ?_⟩
  have hm : (L.set i (L[i].1, L[i].2.set j y)).map (·.1) = L.map (·.1) := by
    rw [List.map_set]
    apply List.ext_getElem?
    intro k
    by_cases hk : k = i
    · subst hk
      rw [List.getElem?_set_self (by simpa using hi), List.getElem?_map, List.getElem?_eq_getElem hi]; rfl
    · rw [List.getElem?_set_ne (Ne.symm hk)]
  rw [List.length_set, hm]
  refine h.kept.keep fun k hk => Below.heap_setCell _ _ _ _ ?_
  obtain ⟨_, _, cur, hcur⟩ := h.kept.block hk
  have hb : L[i].1.ownBlock = some g := by rw [hv]; rfl
  obtain ⟨_, _, cur', hcur'⟩ := (h.rows.own i hi).block hb
  rintro rfl
  rw [hcur] at hcur'; cases hcur'

/-- What stands in the list of lists at place i. -/
theorem Kept.cell {w : World} {B : Nat} {a : Option Addr} {n c : Nat} {L : List (Value × List (List UInt8))} (h : Kept w B (.slice a n c) L) {i : Nat} (hi : i < L.length) :
    ∃ g, a = some ⟨g, 0, none⟩ ∧ w.cell? ⟨g, i, none⟩ = some L[i].1 := by
  cases a with
  | none => exact absurd (h.kept.nil_of_none rfl).2.2 (by omega)
  | some ad =>
    obtain ⟨g, off, sp⟩ := ad
    obtain ⟨rfl, rfl, _, hc⟩ := h.kept.cells rfl
    refine ⟨g, rfl, ?_⟩
    rw [hc i hi, List.getElem?_map, List.getElem?_eq_getElem hi]; rfl

def keptW (i : Nat) : List UInt8 := [107, 101, 112, 116, 32] ++ markL i
/-- Behind t lists written full of their marks. -/
structure Marked (L L' : List (Value × List (List UInt8))) (t : Nat) : Prop where
  vals : L'.map (·.1) = L.map (·.1)
  lens : L'.map (·.2.length) = L.map (·.2.length)
  done : ∀ i (h : i < L'.length), i < t → L'[i].2 = List.replicate L'[i].2.length (keptW i)
theorem Marked.len {L L' : List (Value × List (List UInt8))} {t : Nat} (h : Marked L L' t) : L'.length = L.length := by have := congrArg List.length h.vals; simpa using this
theorem Marked.val {L L' : List (Value × List (List UInt8))} {t : Nat} (h : Marked L L' t) {i : Nat} (hi : i < L'.length) (hi' : i < L.length) : L'[i].1 = L[i].1 := by
  have := congrArg (·[i]?) h.vals
  simpa [List.getElem?_map, List.getElem?_eq_getElem hi, List.getElem?_eq_getElem hi'] using this
theorem Marked.leni {L L' : List (Value × List (List UInt8))} {t : Nat} (h : Marked L L' t) {i : Nat} (hi : i < L'.length) (hi' : i < L.length) : L'[i].2.length = L[i].2.length := by
  have := congrArg (·[i]?) h.lens
  simpa [List.getElem?_map, List.getElem?_eq_getElem hi, List.getElem?_eq_getElem hi'] using this
/-- One cell more of list t. -/
theorem Marked.set {L L' : List (Value × List (List UInt8))} {t j : Nat} (h : Marked L L' t) (ht : t < L'.length) (y : List UInt8) : Marked L (L'.set t (L'[t].1, L'[t].2.set j y)) t := by
  refine ⟨?_, ?_, fun i hi hit => ?_⟩
  · rw [← h.vals, List.map_set]
    apply List.ext_getElem?
    intro k
    by_cases hk : k = t
    · subst hk
      rw [List.getElem?_set_self (by simpa using ht), List.getElem?_map, List.getElem?_eq_getElem ht]; rfl
    · rw [List.getElem?_set_ne (Ne.symm hk)]
  · rw [← h.lens, List.map_set]
    apply List.ext_getElem?
    intro k
    by_cases hk : k = t
    · subst hk
      rw [List.getElem?_set_self (by simpa using ht), List.getElem?_map, List.getElem?_eq_getElem ht]; simp
    · rw [List.getElem?_set_ne (Ne.symm hk)]
  · rw [List.length_set] at hi
    have e : (L'.set t (L'[t].1, L'[t].2.set j y))[i]'(by rw [List.length_set]; exact hi) = L'[i] := List.getElem_set_ne (by omega) _
    rw [e]
    exact h.done i hi hit
theorem Marked.next {L L' : List (Value × List (List UInt8))} {t : Nat} (h : Marked L L' t) (ht : t < L'.length) (hd : L'[t].2 = List.replicate L'[t].2.length (keptW t)) : Marked L L' (t + 1) :=
  ⟨h.vals, h.lens, fun i hi hit => by
    by_cases e : i = t
    · subst e; exact hd
    · exact h.done i hi (by omega)⟩
theorem Marked.start (L : List (Value × List (List UInt8))) : Marked L L 0 := ⟨rfl, rfl, fun i hi h => by omega⟩
theorem take_set_next {xs : List (List UInt8)} {j : Nat} {y : List UInt8} (hj : j < xs.length) (h : xs.take j = List.replicate j y) : (xs.set j y).take (j + 1) = List.replicate (j + 1) y := by
  rw [List.take_succ_eq_append_getElem (by simpa using hj), List.getElem_set_self, List.take_set_of_le (Nat.le_refl _), h, List.replicate_succ']

theorem rows_lt {w : World} {B : Nat} {vk : Value} {L : List (Value × List (List UInt8))} (h : Kept w B vk L) : ∀ i (hi : i < L.length) k, L[i].1.ownBlock = some k → k < w.heap.size := fun i hi k hk => (h.rows.lt hi hk).2
theorem rows_lt_snoc {w : World} {L : List (Value × List (List UInt8))} {n : Nat} {C : Nat} {v : Value} {m : Nat} {xs : List Value} {xs' : List (List UInt8)} (h : ∀ i (hi : i < L.length) k, L[i].1.ownBlock = some k → k < n) (hn : n ≤ w.heap.size) (hv : Own w C 9 v m xs) :
    ∀ i (hi : i < (L ++ [(v, xs')]).length) k, (L ++ [(v, xs')])[i].1.ownBlock = some k → k < w.heap.size := by
  intro i hi k hk
  by_cases hl : i < L.length
  · rw [List.getElem_append_left hl] at hk
    exact Nat.lt_of_lt_of_le (h i hl k hk) hn
  · have : i = L.length := by simp at hi; omega
    subst this
    rw [List.getElem_append_right (Nat.le_refl _)] at hk
    simp only [Nat.sub_self, List.getElem_cons_zero] at hk
    exact (hv.block hk).2.1

theorem own_one (w : World) (B : Nat) (e : TypeId) (x : Value) (hB : B ≤ w.heap.size) : Own (w.alloc (.cells #[x] e)) B e (.slice (some ⟨w.heap.size, 0, none⟩) 1 1) 1 [x] :=
  ⟨rfl, .inr ⟨w.heap.size, 1, #[x], rfl, hB, heap_alloc_new w _, Nat.le_refl _, by unfold maxLen; omega, rfl, rfl⟩⟩

theorem own_head (l : List UInt8) (hl : l = [97, 32, 34, 98, 34]) : wsOf l = [[97], [98]] ∧ erOf l = 0 := by subst hl; exact ⟨rfl, rfl⟩

theorem own_cell' {w : World} {B n : Nat} {xs : List (List UInt8)} {a : Option Addr} {c : Nat} (h : Own w B 9 (.slice a n c) n (scells xs)) {k : Nat} (hk : k < xs.length) :
    ∃ g, a = some ⟨g, 0, none⟩ ∧ w.cell? ⟨g, k, none⟩ = some (.string (strOf xs[k])) := by
  have hn : n = xs.length := by have := h.len; rw [scells_length] at this; exact this.symm
  subst hn
  exact own_cell h hk

/-- What loops 6 and 7 read of list t: the two lists of lists' cells, and the words. -/
structure Look (W : World) (ak ag : Option Addr) (t n : Nat) (a : Option Addr) (c : Nat) (a' : Option Addr) (c' : Nat) : Prop where
  kc : ∃ g, ak = some ⟨g, 0, none⟩ ∧ ∀ w', Below W.heap.size W w' → w'.cell? ⟨g, t, none⟩ = some (.slice a n c)
  gc : ∃ g, ag = some ⟨g, 0, none⟩ ∧ ∀ w', Below W.heap.size W w' → w'.cell? ⟨g, t, none⟩ = some (.slice a' (n + 71) c')
  kept : ∀ j, j < n → ∃ g, a = some ⟨g, 0, none⟩ ∧ ∀ w', Below W.heap.size W w' → w'.cell? ⟨g, j, none⟩ = some (.string (strOf (keptW t)))
  long : ∀ j, j < n → ∃ g, a' = some ⟨g, 0, none⟩ ∧ ∀ w', Below W.heap.size W w' → w'.cell? ⟨g, j, none⟩ = some (.string (strOf (keptW t)))
  more : ∀ j, n ≤ j → j < n + 71 → ∃ g, a' = some ⟨g, 0, none⟩ ∧ ∀ w', Below W.heap.size W w' → w'.cell? ⟨g, j, none⟩ = some (.string (strOf (moreW t)))

theorem own_at {w : World} {B N : Nat} {a : Option Addr} {c : Nat} {xs : List Value} (h : Own w B 22 (.slice a N c) N xs) {t : Nat} (ht : t < N) (hx : t < xs.length) : ∃ g, a = some ⟨g, 0, none⟩ ∧ g < w.heap.size ∧ w.cell? ⟨g, t, none⟩ = some xs[t] := by
  cases a with
  | none => exact absurd (h.nil_of_none rfl).2.2 (by omega)
  | some ad =>
    obtain ⟨g, off, sp⟩ := ad
    have hb := (h.block rfl).2.1
    obtain ⟨rfl, rfl, _, hc⟩ := h.cells rfl
    exact ⟨g, rfl, hb, by rw [hc t ht, List.getElem?_eq_getElem hx]⟩

theorem look_of {W : World} {B C N : Nat} {K : List (Value × List (List UInt8))} {G : List Value} {ak ag : Option Addr} {ck cg : Nat} (h : LongOk W B K G N) (hN : K.length = N)
    (hk : Own W B 22 (.slice ak N ck) N (K.map (·.1))) (hg : Own W C 22 (.slice ag N cg) N G) {t : Nat} (ht : t < N) (hK : t < K.length) (hd : K[t].2 = List.replicate K[t].2.length (keptW t)) :
    ∃ a c a' c', Look W ak ag t K[t].2.length a c a' c' := by
  have hG : t < G.length := by rw [h.len]; exact ht
  obtain ⟨a, c, hka, hkc⟩ := h.kept t hK ht
  obtain ⟨a', c', hla, hlc⟩ := h.long t hG hK
  obtain ⟨g1, e1, b1, c1⟩ := own_at hk ht (by simpa using hK)
  obtain ⟨g2, e2, b2, c2⟩ := own_at hg ht hG
  rw [List.getElem_map, hka] at c1
  rw [hla, List.length_append, List.length_replicate] at c2
  refine ⟨a, c, a', c', ⟨g1, e1, fun w' hb => by rw [hb.cell (p := ⟨g1, t, none⟩) b1]; exact c1⟩, ⟨g2, e2, fun w' hb => by rw [hb.cell (p := ⟨g2, t, none⟩) b2]; exact c2⟩, fun j hj => ?_, fun j hj => ?_, fun j hj hj2 => ?_⟩
  · obtain ⟨g, e, h9, hc⟩ := hkc j hj
    refine ⟨g, e, fun w' hb => ?_⟩
    rw [hb.cell (p := ⟨g, j, none⟩) h9.lt, hc]
    have : K[t].2[j] = keptW t := by
      have := List.getElem_of_eq hd hj
      rw [this, List.getElem_replicate]
    rw [this]
  · obtain ⟨g, e, h9, hc⟩ := hlc j (by simp; omega)
    refine ⟨g, e, fun w' hb => ?_⟩
    rw [hb.cell (p := ⟨g, j, none⟩) h9.lt, hc, List.getElem_append_left hj]
    have : K[t].2[j] = keptW t := by
      have := List.getElem_of_eq hd hj
      rw [this, List.getElem_replicate]
    rw [this]
  · obtain ⟨g, e, h9, hc⟩ := hlc j (by simp; omega)
    refine ⟨g, e, fun w' hb => ?_⟩
    rw [hb.cell (p := ⟨g, j, none⟩) h9.lt, hc, List.getElem_append_right hj, List.getElem_replicate]
end Go.Proofs.YtheflheeaiopfaaDoor
