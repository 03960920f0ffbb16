/- Plain lemmas on the heap: blocks that are known whole, slices that the call owns, what a call leaves alone. No program in sight. -/
import Derived.Below
import Derived.OwnWalk
import Derived.Lib.Hide
import Derived.Lib.AppendStr
import Derived.Laws.Rows
import Derived.Laws.NewBlocks
set_option linter.unusedSimpArgs false
set_option linter.unusedVariables false
namespace Vl
open Go Go.RowKit
set_option linter.unusedVariables false

/-- Bytes and strings as cells. -/
def bcells (l : List UInt8) : List Value := l.map fun c => Value.int .u8 c.toNat
def strOf (l : List UInt8) : ByteArray := ⟨l.toArray⟩
def scells (l : List (List UInt8)) : List Value := l.map fun s => Value.string (strOf s)
@[simp] theorem bcells_length (l : List UInt8) : (bcells l).length = l.length := by simp [bcells]
@[simp] theorem scells_length (l : List (List UInt8)) : (scells l).length = l.length := by simp [scells]
theorem bcells_append (l m : List UInt8) : bcells (l ++ m) = bcells l ++ bcells m := by simp [bcells]
theorem scells_append (l m : List (List UInt8)) : scells (l ++ m) = scells l ++ scells m := by simp [scells]
theorem bcells_one (c : UInt8) : bcells [c] = [.int .u8 c.toNat] := rfl
theorem scells_one (c : List UInt8) : scells [c] = [.string (strOf c)] := rfl
theorem bcells_oneCell (l : List UInt8) : ∀ u ∈ bcells l, u.oneCell' = true := by
  intro u hu; obtain ⟨c, _, rfl⟩ := List.mem_map.1 hu; rfl
theorem scells_oneCell (l : List (List UInt8)) : ∀ u ∈ scells l, u.oneCell' = true := by
  intro u hu; obtain ⟨c, _, rfl⟩ := List.mem_map.1 hu; rfl
theorem strOf_toList (s : ByteArray) : strOf s.data.toList = s := rfl
@[simp] theorem strOf_data (l : List UInt8) : (strOf l).data.toList = l := rfl
@[simp] theorem strOf_size (l : List UInt8) : (strOf l).size = l.length := by simp [strOf, ByteArray.size]
theorem strCells_eq (s : ByteArray) : Lib.strCells s = bcells s.data.toList := rfl

/-- A slice of one-cell elements, laid by the call itself from block B on, holds these n. -/
def Own (w : World) (B : Nat) (e : TypeId) (v : Value) (n : Nat) (xs : List Value) : Prop := w.ownsRow B e 1 v n xs

section
variable {w w' : World} {B : Nat} {e : TypeId} {v : Value} {n : Nat} {xs : List Value}
theorem Own.nil (w : World) (B : Nat) (e : TypeId) : Own w B e (.slice none 0 0) 0 [] := World.ownsRow_nil w B e 1
theorem Own.len (h : Own w B e v n xs) : xs.length = n := by have := h.1; omega
theorem Own.form (h : Own w B e v n xs) : ∃ a c, v = .slice a n c := by
  rcases h.2 with ⟨rfl, h0⟩ | ⟨g, cap, cur, rfl, _⟩
  · exact ⟨none, 0, by rw [h0]⟩
  · exact ⟨_, cap, rfl⟩
theorem Own.block (h : Own w B e v n xs) {k : Nat} (hk : v.ownBlock = some k) : B ≤ k ∧ k < w.heap.size ∧ ∃ cur, w.heap[k]? = some (.cells cur e (0, 0)) := by
  rcases h.2 with ⟨rfl, h0⟩ | ⟨g, cap, cur, rfl, hb, hg, _⟩
  · simp [Value.ownBlock] at hk
  · simp [Value.ownBlock] at hk
    subst hk
    exact ⟨hb, (Array.getElem?_eq_some_iff.1 hg).1, cur, hg⟩
/-- It is as it was where its own block is as it was. -/
theorem Own.keep (h : Own w B e v n xs) (hb : ∀ k, v.ownBlock = some k → w'.heap[k]? = w.heap[k]?) : Own w' B e v n xs := by
  refine ⟨h.1, ?_⟩
  rcases h.2 with hn | ⟨g, cap, cur, rfl, hb', hg, hr⟩
  · exact .inl hn
  · exact .inr ⟨g, cap, cur, rfl, hb', by rw [hb g rfl]; exact hg, hr⟩
theorem Own.alloc (h : Own w B e v n xs) (o : Obj) : Own (w.alloc o) B e v n xs := World.ownsRow.alloc h o
theorem Own.drew (h : Own w B e v n xs) : Own w.drew B e v n xs := h
theorem Own.setCell (h : Own w B e v n xs) {a : Addr} {u : Value} (ha : a.block < B) : Own (w.setCell a u) B e v n xs :=
  h.keep fun k hk => Below.heap_setCell _ _ _ _ (by have := (h.block hk).1; omega)
theorem Own.cells (h : Own w B e v n xs) {g off : Nat} {l c : Nat} {sp : Option Nat} (hv : v = .slice (some ⟨g, off, sp⟩) l c) : off = 0 ∧ sp = none ∧ l = n ∧ ∀ j, j < n → w.cell? ⟨g, j, none⟩ = xs[j]? := by
  have hl := h.len
  rcases h.2 with ⟨rfl, h0⟩ | ⟨g', cap, cur, rfl, _⟩
  · cases hv
  · cases hv
    refine ⟨rfl, rfl, rfl, fun j hj => ?_⟩
    have := World.ownsRow.cells h (g := g) rfl j (xs[j]'(by omega)) (List.getElem?_eq_getElem (by omega))
    rw [Addr.add_lit] at this
    simp only [Nat.zero_add] at this
    rw [this, List.getElem?_eq_getElem]
theorem Own.nil_of_none (h : Own w B e v n xs) {l c : Nat} (hv : v = .slice none l c) : xs = [] ∧ l = 0 ∧ n = 0 := by
  have hl := h.len
  rcases h.2 with ⟨rfl, h0⟩ | ⟨g', cap, cur, rfl, _⟩
  · cases hv; exact ⟨List.eq_nil_of_length_eq_zero (by omega), rfl, h0⟩
  · cases hv
end

/-- Below block B, but for block b, the world is as it was. -/
structure Out (b B : Nat) (w w' : World) : Prop where
  os : w'.os = w.os
  tape : w'.tape = w.tape
  output : w'.output = w.output
  size : w.heap.size ≤ w'.heap.size
  block : ∀ k, k < B → k ≠ b → w'.heap[k]? = w.heap[k]?

section
variable {b B : Nat} {a c d w w' : World}
theorem Out.refl (b B : Nat) (w : World) : Out b B w w := ⟨rfl, rfl, rfl, Nat.le_refl _, fun _ _ _ => rfl⟩
theorem Out.trans (h : Out b B a c) (k : Out b B c d) : Out b B a d :=
  ⟨k.os.trans h.os, k.tape.trans h.tape, k.output.trans h.output, Nat.le_trans h.size k.size, fun i hi hb => (k.block i hi hb).trans (h.block i hi hb)⟩
theorem Out.drew (h : Out b B a w) : Out b B a w.drew := ⟨h.os, h.tape, h.output, h.size, h.block⟩
theorem Out.alloc (h : Out b B a w) (o : Obj) (hB : B ≤ w.heap.size) : Out b B a (w.alloc o) :=
  ⟨h.os, h.tape, h.output, Nat.le_trans h.size (by show w.heap.size ≤ (w.heap.push o).size; simp), fun k hk hb => (Below.heap_alloc w o k (by omega)).trans (h.block k hk hb)⟩
theorem Out.setCell (h : Out b B a w) (p : Addr) (v : Value) (hp : p.block = b ∨ B ≤ p.block) : Out b B a (w.setCell p v) :=
  ⟨h.os, h.tape, h.output, by simpa [World.setCell] using h.size, fun k hk hb => (Below.heap_setCell _ _ _ _ (by omega)).trans (h.block k hk hb)⟩
theorem Out.grown (h : Out b B a w) {row : Option Nat} (hg : w.grownBy w' row) (hB : B ≤ w.heap.size) (hr : ∀ k, row = some k → B ≤ k) : Out b B a w' :=
  h.trans ⟨hg.os, hg.tape, hg.output, hg.size, fun k hk _ => hg.block k (by omega) (fun e => by have := hr k e.symm; omega)⟩
theorem Out.below {B' : Nat} (h : Out b B a w) (hb : B' ≤ b) (hB : B' ≤ B) : Below B' a w := ⟨h.os, h.tape, h.output, h.size, fun k hk => h.block k (by omega) (by omega)⟩
theorem Out.of_below (h : Below B a w) : Out b B a w := ⟨h.os, h.tape, h.output, h.size, fun k hk _ => h.block k hk⟩
theorem Out.mono {B' : Nat} (h : Out b B a w) (hB : B' ≤ B) : Out b B' a w := ⟨h.os, h.tape, h.output, h.size, fun k hk hb => h.block k (by omega) hb⟩
end

/-- A cell of a block that is known whole. -/
theorem cell_whole {w : World} {b : Nat} {cs : Array Value} {t : TypeId} {fr : Nat × Nat} (h : w.heap[b]? = some (.cells cs t fr)) (k : Nat) : w.cell? ⟨b, k, none⟩ = cs[k]? := cell_of_row w b k cs t fr h
theorem frozen_whole {w : World} {b : Nat} {cs : Array Value} {t : TypeId} (h : w.heap[b]? = some (.cells cs t (0, 0))) (k : Nat) : w.frozen? ⟨b, k, none⟩ = false := frozen_of_row w b k cs t h
theorem lt_whole {w : World} {b : Nat} {o : Obj} (h : w.heap[b]? = some o) : b < w.heap.size := (Array.getElem?_eq_some_iff.1 h).1
theorem set_whole {w : World} {b i : Nat} {cs : Array Value} {t : TypeId} (h : w.heap[b]? = some (.cells cs t (0, 0))) (v : Value) : (w.setCell ⟨b, i, none⟩ v).heap[b]? = some (.cells (cs.setIfInBounds i v) t (0, 0)) := heap_setCell_same w b i cs t v h
theorem alloc_whole {w : World} {b : Nat} {o o' : Obj} (h : w.heap[b]? = some o) : (w.alloc o').heap[b]? = some o := by
  rw [Below.heap_alloc w o' b (lt_whole h)]; exact h
theorem set_other {w : World} {b : Nat} {o : Obj} {p : Addr} {v : Value} (h : w.heap[b]? = some o) (hp : p.block ≠ b) : (w.setCell p v).heap[b]? = some o := by
  rw [Below.heap_setCell _ _ _ _ (Ne.symm hp)]; exact h
theorem grown_whole {w w' : World} {row : Option Nat} {b : Nat} {o : Obj} (hg : w.grownBy w' row) (h : w.heap[b]? = some o) (hr : row ≠ some b) : w'.heap[b]? = some o := by
  rw [hg.block b (lt_whole h) (fun e => hr e.symm)]; exact h

theorem new_one (w : World) (x : Value) (e : TypeId) (n : Nat) (hn : n = w.heap.size) : ∀ j u, [x][j]? = some u → (w.alloc (.cells #[x] e)).cell? ((⟨n, 0, none⟩ : Addr).add j) = some u := by
  intro j u hj
  subst hn
  cases j with
  | zero =>
    simp at hj; subst hj
    exact cell_whole (heap_alloc_new w (.cells #[x] e)) 0
  | succ j => simp at hj
theorem size_alloc (w : World) (o : Obj) : (w.alloc o).heap.size = w.heap.size + 1 := by show (w.heap.push o).size = _; simp
theorem size_set (w : World) (p : Addr) (v : Value) : (w.setCell p v).heap.size = w.heap.size := by simp [World.setCell]
theorem one_cell {x : Value} (h : x.oneCell' = true) : ∀ u ∈ [x], u.oneCell' = true := by
  intro u hu; simp at hu; subst hu; exact h
theorem size_drew (w : World) : w.drew.heap.size = w.heap.size := rfl
/-- Sizes grow, step by step. -/
theorem le_alloc {B : Nat} {w : World} (h : B ≤ w.heap.size) (o : Obj) : B ≤ (w.alloc o).heap.size := by rw [size_alloc]; omega
theorem le_set {B : Nat} {w : World} (h : B ≤ w.heap.size) (p : Addr) (v : Value) : B ≤ (w.setCell p v).heap.size := by rw [size_set]; exact h
theorem le_drew {B : Nat} {w : World} (h : B ≤ w.heap.size) : B ≤ w.drew.heap.size := h
theorem max_ok {n : Nat} (h : n < 1000000) : n + 1 ≤ maxLen := by unfold maxLen; omega
theorem byt_ok1 {n : Nat} (h : n < 1000000) : (n + 1) * 1 ≤ 140737488355328 := by omega
theorem byt_ok16 {n : Nat} (h : n < 1000000) : (n + 1) * 16 ≤ 140737488355328 := by omega
theorem sz_set (w : World) (p : Addr) (v : Value) : w.heap.size = (w.setCell p v).heap.size := (size_set w p v).symm
end Vl
