/- Items that the call itself has laid. -/
import Derived.Test.YtenpihkfghfpaaaDoorDTake
namespace Go.Proofs.YtenpihkfghfpaaaDoor
open Go.RowKit Vl Go.Maps
set_option linter.unusedVariables false

def rcells (rs : List (Int × Int)) : List Value := rs.flatMap fun r => [.int .i64 r.1, .int .i64 r.2]
theorem rcells_len (rs : List (Int × Int)) : (rcells rs).length = rs.length * 2 := by
  induction rs with
  | nil => rfl
  | cons r rs ih => unfold rcells at *; rw [List.flatMap_cons, List.length_append, ih]; simp; omega
theorem rcells_snoc (rs : List (Int × Int)) (r : Int × Int) : rcells (rs ++ [r]) = rcells rs ++ [.int .i64 r.1, .int .i64 r.2] := by
  unfold rcells; rw [List.flatMap_append]; simp
theorem rcells_at (rs : List (Int × Int)) (i : Nat) (h : i < rs.length) : (rcells rs)[i * 2]? = some (.int .i64 rs[i].1) ∧ (rcells rs)[i * 2 + 1]? = some (.int .i64 rs[i].2) := by
  induction rs generalizing i with
  | nil => simp at h
  | cons r rs ih =>
    have e : rcells (r :: rs) = .int .i64 r.1 :: .int .i64 r.2 :: rcells rs := rfl
    rw [e]
    cases i with
    | zero => simp
    | succ i =>
      have := ih i (by simpa using h)
      rw [show (i + 1) * 2 = i * 2 + 1 + 1 by omega]
      simpa using this

/-- An item's rows, laid by the call. -/
structure ItemO (w : World) (B : Nat) (x : Itm) (rv dv : Value) : Prop where
  runs : w.ownsRow B 49 2 rv x.runs.length (rcells x.runs)
  data : Own w B 5 dv x.data.length (bcells x.data)
theorem row_keep {w w' : World} {B e s n : Nat} {v : Value} {xs : List Value} (h : w.ownsRow B e s v n xs) (hb : ∀ k cs, w.heap[k]? = some (.cells cs e (0, 0)) → B ≤ k → w'.heap[k]? = w.heap[k]?) : w'.ownsRow B e s v n xs := by
  refine ⟨h.1, ?_⟩
  rcases h.2 with hn | ⟨g, cap, cur, rfl, hb', hg, hr⟩
  · exact .inl hn
  · exact .inr ⟨g, cap, cur, rfl, hb', by rw [hb g cur hg hb']; exact hg, hr⟩
/-- Rows of numbers and of bytes stay where only other blocks turn. -/
theorem ItemO.keep {w w' : World} {B : Nat} {x : Itm} {rv dv : Value} (h : ItemO w B x rv dv) (hb : ∀ k cs t, w.heap[k]? = some (.cells cs t (0, 0)) → B ≤ k → t = 49 ∨ t = 5 → w'.heap[k]? = w.heap[k]?) : ItemO w' B x rv dv :=
  ⟨row_keep h.runs fun k cs hc hB => hb k cs 49 hc hB (.inl rfl), row_keep h.data fun k cs hc hB => hb k cs 5 hc hB (.inr rfl)⟩
theorem ItemO.mono {w : World} {B B' : Nat} {x : Itm} {rv dv : Value} (h : ItemO w B x rv dv) (hB : B' ≤ B) : ItemO w B' x rv dv := ⟨World.ownsRow.mono h.runs hB, World.ownsRow.mono h.data hB⟩

theorem row_form {w : World} {B e s n : Nat} {v : Value} {xs : List Value} (h : w.ownsRow B e s v n xs) : ∃ a c, v = .slice a n c := by
  rcases h.2 with ⟨rfl, h0⟩ | ⟨g, cap, cur, rfl, _⟩
  · exact ⟨none, 0, by rw [h0]⟩
  · exact ⟨_, cap, rfl⟩
theorem runs_of_own {w : World} {B n c : Nat} {a : Option Addr} {rs : List (Int × Int)} (h : w.ownsRow B 49 2 (.slice a n c) n (rcells rs)) : n = rs.length ∧ RunsAt w a rs := by
  have hn : n = rs.length := by have := h.1; rw [rcells_len] at this; omega
  subst hn
  refine ⟨rfl, fun i hi => ?_⟩
  rcases h.2 with ⟨e, h0⟩ | ⟨g, cap, cur, e, hb, hg, _⟩
  · omega
  · cases e
    have hlt := lt_whole hg
    obtain ⟨h1, h2⟩ := rcells_at rs i hi
    have c1 := World.ownsRow.cells h (g := g) rfl _ _ h1
    have c2 := World.ownsRow.cells h (g := g) rfl _ _ h2
    rw [Addr.add_lit] at c1 c2
    exact ⟨g, 0, rfl, hlt, c1, by rw [Nat.add_assoc]; exact c2⟩

def icell (x : Itm) (d : Value × Value) : List Value := [.int .i64 x.kind, .string (strOf x.path), .string (strOf x.target), .int .i64 x.size, d.1, d.2]
/-- Items' cells. -/
def fcells : List Itm → List (Value × Value) → List Value
  | x :: L, d :: ds => icell x d ++ fcells L ds
  | _, _ => []
theorem fcells_len : ∀ (L : List Itm) (ds : List (Value × Value)), L.length = ds.length → (fcells L ds).length = L.length * 6
  | [], [], _ => rfl
  | x :: L, d :: ds, h => by
    rw [fcells, List.length_append, fcells_len L ds (by simpa using h), List.length_cons]
    show 6 + _ = _
    omega
theorem fcells_snoc : ∀ (L : List Itm) (ds : List (Value × Value)) (x : Itm) (d : Value × Value), L.length = ds.length → fcells (L ++ [x]) (ds ++ [d]) = fcells L ds ++ icell x d
  | [], [], x, d, _ => by simp [fcells]
  | y :: L, e :: ds, x, d, h => by
    rw [List.cons_append, List.cons_append, fcells, fcells_snoc L ds x d (by simpa using h), fcells, List.append_assoc]
theorem fcells_at : ∀ (L : List Itm) (ds : List (Value × Value)) (i k : Nat) (h : i < L.length) (h2 : i < ds.length), k < 6 → (fcells L ds)[i * 6 + k]? = (icell L[i] ds[i])[k]?
  | x :: L, d :: ds, 0, k, _, _, hk => by
    rw [fcells, Nat.zero_mul, Nat.zero_add, List.getElem?_append_left (by show k < 6; exact hk)]; rfl
  | x :: L, d :: ds, i + 1, k, h, h2, hk => by
    rw [fcells, List.getElem?_append_right (by show 6 ≤ _; omega)]
    have := fcells_at L ds i k (by simpa using h) (by simpa using h2) hk
    rw [show (i + 1) * 6 + k - (icell x d).length = i * 6 + k by show (i + 1) * 6 + k - 6 = _; omega, this]
    rfl

/-- A row of items, laid by the call, its items' rows too. -/
structure ItemsO (w : World) (B : Nat) (v : Value) (L : List Itm) (ds : List (Value × Value)) : Prop where
  len : L.length = ds.length
  row : w.ownsRow B 47 6 v L.length (fcells L ds)
  each : ∀ i (h : i < L.length) (h2 : i < ds.length), ItemO w B L[i] ds[i].1 ds[i].2
theorem ItemsO.nil (w : World) (B : Nat) : ItemsO w B (.slice none 0 0) [] [] := ⟨rfl, World.ownsRow_nil w B 47 6, fun i h => by simp at h⟩
theorem ItemsO.keep {w w' : World} {B : Nat} {v : Value} {L : List Itm} {ds : List (Value × Value)} (h : ItemsO w B v L ds) (hb : ∀ k cs t, w.heap[k]? = some (.cells cs t (0, 0)) → B ≤ k → t = 47 ∨ t = 49 ∨ t = 5 → w'.heap[k]? = w.heap[k]?) : ItemsO w' B v L ds :=
  ⟨h.len, row_keep h.row fun k cs hc hB => hb k cs 47 hc hB (.inl rfl), fun i h1 h2 => (h.each i h1 h2).keep fun k cs t hc hB ht => hb k cs t hc hB (.inr ht)⟩
theorem ItemsO.below {w w' : World} {B : Nat} {v : Value} {L : List Itm} {ds : List (Value × Value)} (h : ItemsO w B v L ds) (hb : Below w.heap.size w w') : ItemsO w' B v L ds :=
  h.keep fun k cs t hc _ _ => hb.block k (lt_whole hc)
theorem ItemsO.mono {w : World} {B B' : Nat} {v : Value} {L : List Itm} {ds : List (Value × Value)} (h : ItemsO w B v L ds) (hB : B' ≤ B) : ItemsO w B' v L ds :=
  ⟨h.len, World.ownsRow.mono h.row hB, fun i h1 h2 => (h.each i h1 h2).mono hB⟩
/-- As items that can be read. -/
theorem ItemsO.at {w : World} {B n c : Nat} {a : Option Addr} {L : List Itm} {ds : List (Value × Value)} (h : ItemsO w B (.slice a n c) L ds) : n = L.length ∧ ItemsAt w a L := by
  have hn : n = L.length := by
    obtain ⟨a', c', e⟩ := row_form h.row
    cases e; rfl
  subst hn
  refine ⟨rfl, fun i hi => ?_⟩
  have hi2 : i < ds.length := by have := h.len; omega
  rcases h.row.2 with ⟨e, h0⟩ | ⟨g, cap, cur, e, hb, hg, _⟩
  · omega
  · cases e
    have hlt := lt_whole hg
    obtain ⟨ra, rc, e1⟩ := row_form (h.each i hi hi2).runs
    obtain ⟨da, dc, e2⟩ := row_form (h.each i hi hi2).data
    have hc : ∀ k, k < 6 → w.cell? ⟨g, 0 + i * 6 + k, none⟩ = (icell L[i] ds[i])[k]? := by
      intro k hk
      have h1 := fcells_at L ds i k hi hi2 hk
      cases hu : (icell L[i] ds[i])[k]? with
      | none =>
        rw [List.getElem?_eq_none_iff] at hu
        have : (icell L[i] ds[i]).length = 6 := rfl
        omega
      | some u =>
        rw [hu] at h1
        have c1 := World.ownsRow.cells h.row (g := g) rfl _ _ h1
        rw [Addr.add_lit] at c1
        rw [Nat.add_assoc]; exact c1
    refine ⟨g, 0, ra, rc, da, dc, rfl, hlt, hc 0 (by omega), hc 1 (by omega), hc 2 (by omega), hc 3 (by omega), ?_, ?_, ?_, ?_⟩
    · rw [hc 4 (by omega), ← e1]; rfl
    · rw [hc 5 (by omega), ← e2]; rfl
    · have := (h.each i hi hi2).runs; rw [e1] at this; exact (runs_of_own this).2
    · have := (h.each i hi hi2).data; rw [e2] at this; exact (BytesAt.of_own this).2
end Go.Proofs.YtenpihkfghfpaaaDoor
