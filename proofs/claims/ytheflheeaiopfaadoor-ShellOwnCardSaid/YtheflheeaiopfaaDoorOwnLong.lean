/- A list of the call's own, appended to while the list itself is kept: the kit's 'Onto' over an own row. Plain lemmas on the heap. -/
import Derived.Test.YtheflheeaiopfaaDoorOwnRows
import Derived.Deep.Onto
namespace Go.Proofs.YtheflheeaiopfaaDoor
open Go.RowKit Vl
set_option linter.unusedVariables false

/-- An own row of one-cell elements, as a slice that came in. -/
theorem own_came {W : World} {B : Nat} {e : TypeId} {ao : Option Addr} {n c : Nat} {xs : List Value} (h : Own W B e (.slice ao n c) n xs) : ∃ b, Came W 1 ao b 0 n c xs ∧ (0 < c → (Value.slice ao n c).ownBlock = some b) := by
  have hl := h.len
  rcases h.2 with ⟨hv, h0⟩ | ⟨g, cap, cur, hv, hb, hg, hnc, hm, hcs, ht⟩
  · cases hv
    exact ⟨0, ⟨Nat.le_refl _, fun h => by omega, fun h => by omega, by omega, fun j u hj => by
      have : xs = [] := List.eq_nil_of_length_eq_zero (by omega)
      subst this; simp at hj, fun j hj => by omega⟩, fun h => by omega⟩
  · cases hv
    refine ⟨g, ⟨hnc, fun _ => rfl, fun _ => lt_whole hg, by omega, fun j u hj => ?_, fun j hj => ?_⟩, fun _ => rfl⟩
    · have hjn : j < n := by have := (List.getElem?_eq_some_iff.1 hj).1; omega
      rw [Nat.zero_add]
      have := (h.cells rfl).2.2.2 j hjn
      rw [this]; exact hj
    · rw [cell_whole hg, frozen_whole hg]
      refine ⟨?_, rfl⟩
      have : 0 + n * 1 + j < cur.size := by rw [hcs]; omega
      rw [Array.getElem?_eq_getElem this]; rfl

/-- What lies above the old blocks may grow: a call between two appends. -/
theorem onto_below {W w w' : World} {e : TypeId} {ao : Option Addr} {b off n c m : Nat} {olds ks : List Value} {v : Value} (h : Onto W e 1 ao b off n c olds w v m ks) (hc : Came W 1 ao b off n c olds) (hW : W.heap.size ≤ w.heap.size) (hb : Below w.heap.size w w') : Onto W e 1 ao b off n c olds w' v m ks :=
  h.carry hc hb.os hb.output (fun i hi => hb.block i (Nat.lt_of_lt_of_le hi hW)) (fun ho => by
    have ho' : Own w W.heap.size e v (n + m) (olds ++ ks) := ho
    exact ho'.keep fun k hk => hb.block k (ho'.block hk).2.1)

def moreW (i : Nat) : List UInt8 := [109, 111, 114, 101, 32] ++ markL i

/-- A block of strings. -/
def T9 (w : World) (g : Nat) : Prop := ∃ cs, w.heap[g]? = some (Obj.cells cs 9 (0, 0))
theorem T9.lt {w : World} {g : Nat} (h : T9 w g) : g < w.heap.size := by obtain ⟨cs, h⟩ := h; exact lt_whole h
theorem T9.kept {w w' : World} {g : Nat} {may : MemPlace → Prop} (h : T9 w g) (hk : w.keptBut w' may) : T9 w' g := by
  have hl := h.lt
  obtain ⟨cs, h⟩ := h
  have h3 := hk.2.2 g hl
  rw [h] at h3
  cases hc : w'.heap[g]? with
  | none => rw [hc] at h3; cases h3
  | some o =>
    rw [hc] at h3
    cases o with
    | cells c' t' fr' =>
      obtain ⟨rfl, rfl, _⟩ := h3
      exact ⟨c', hc⟩
    | _ => cases h3
theorem T9.below {w w' : World} {g : Nat} (h : T9 w g) (hb : Below w.heap.size w w') : T9 w' g := by
  have hl := h.lt
  obtain ⟨cs, h⟩ := h
  exact ⟨cs, by rw [hb.block g hl]; exact h⟩

/-- A list of words, as it can be read. -/
def Reads (w : World) (v : Value) (xs : List (List UInt8)) : Prop :=
  ∃ a c, v = .slice a xs.length c ∧ ∀ j (h : j < xs.length), ∃ g, a = some ⟨g, 0, none⟩ ∧ T9 w g ∧ w.cell? ⟨g, j, none⟩ = some (.string (strOf xs[j]))

theorem Reads.of_own {w : World} {B : Nat} {v : Value} {xs : List (List UInt8)} (h : Own w B 9 v xs.length (scells xs)) : Reads w v xs := by
  obtain ⟨a, c, rfl⟩ := h.form
  refine ⟨a, c, rfl, fun j hj => ?_⟩
  obtain ⟨g, rfl, hc⟩ := own_cell h hj
  obtain ⟨_, _, cur, hcur⟩ := h.block rfl
  exact ⟨g, rfl, ⟨cur, hcur⟩, hc⟩

/-- It reads on where the blocks of strings stand. -/
theorem Reads.keep {w w' : World} {v : Value} {xs : List (List UInt8)} (h : Reads w v xs) (hk : ∀ g, T9 w g → w'.heap[g]? = w.heap[g]?) : Reads w' v xs := by
  obtain ⟨a, c, rfl, hc⟩ := h
  refine ⟨a, c, rfl, fun j hj => ?_⟩
  obtain ⟨g, rfl, hg, hcell⟩ := hc j hj
  have e := hk g hg
  exact ⟨g, rfl, by obtain ⟨cs, h9⟩ := hg; exact ⟨cs, by rw [e]; exact h9⟩, by rw [World.cell?_of_block (a := ⟨g, j, none⟩) e]; exact hcell⟩

theorem Reads.below {w w' : World} {v : Value} {xs : List (List UInt8)} (h : Reads w v xs) (hb : Below w.heap.size w w') : Reads w' v xs := by
  obtain ⟨a, c, rfl, hc⟩ := h
  refine ⟨a, c, rfl, fun j hj => ?_⟩
  obtain ⟨g, rfl, hg, hcell⟩ := hc j hj
  exact ⟨g, rfl, hg.below hb, by rw [hb.cell hg.lt]; exact hcell⟩

/-- Behind t lists appended to: K: the kept ones with what they hold; G: the long ones. -/
structure LongOk (w : World) (B : Nat) (K : List (Value × List (List UInt8))) (G : List Value) (t : Nat) : Prop where
  len : G.length = t
  kept : ∀ i (hK : i < K.length), i < t → Reads w K[i].1 K[i].2
  long : ∀ i (h : i < G.length) (hK : i < K.length), Reads w G[i] (K[i].2 ++ List.replicate 71 (moreW i))
  blocks : ∀ i (h : i < G.length) i' (hK : i' < K.length), t ≤ i' → ∀ k, G[i].ownBlock = some k → K[i'].1.ownBlock ≠ some k
  left : ∀ i (hK : i < K.length), t ≤ i → Own w B 9 K[i].1 K[i].2.length (scells K[i].2)
  apart : ∀ i j (hi : i < K.length) (hj : j < K.length), i ≠ j → ∀ k, K[i].1.ownBlock = some k → K[j].1.ownBlock ≠ some k

theorem LongOk.start {w : World} {B : Nat} {K : List (Value × List (List UInt8))} (h : Rows' w B K) : LongOk w B K [] 0 :=
  ⟨rfl, fun i _ hi => by omega, fun i hi => by simp at hi, fun i hi => by simp at hi, fun i hK _ => h.own i hK, h.apart⟩
theorem LongOk.below {w w' : World} {B t : Nat} {K : List (Value × List (List UInt8))} {G : List Value} (h : LongOk w B K G t) (hb : Below w.heap.size w w') : LongOk w' B K G t :=
  ⟨h.len, fun i hK hi => (h.kept i hK hi).below hb, fun i hi hK => (h.long i hi hK).below hb, h.blocks, fun i hK hi => own_kept (h.left i hK hi) hb, h.apart⟩

/-- Where all blocks of strings stand. -/
theorem LongOk.keep {w w' : World} {B t : Nat} {K : List (Value × List (List UInt8))} {G : List Value} (h : LongOk w B K G t) (hk : ∀ g, T9 w g → w'.heap[g]? = w.heap[g]?) : LongOk w' B K G t :=
  ⟨h.len, fun i hK hi => (h.kept i hK hi).keep hk, fun i hi hK => (h.long i hi hK).keep hk, h.blocks, fun i hK hi => (h.left i hK hi).keep fun k hk' => hk k (by
    obtain ⟨_, _, cur, hcur⟩ := (h.left i hK hi).block hk'
    exact ⟨cur, hcur⟩), h.apart⟩

/-- A row of lists stands where a list of strings is appended to. -/
theorem own_onto {W w : World} {B B' m mm : Nat} {e : TypeId} {v x : Value} {n : Nat} {xs ys olds ks : List Value} {ao : Option Addr} {b c : Nat} (h : Own W B e v n xs) (he : e ≠ 9) (hK : Own W B' 9 (.slice ao m c) m ys)
    (hb : 0 < c → (Value.slice ao m c).ownBlock = some b) (hO : Onto W 9 1 ao b 0 m c olds w x mm ks) : Own w B e v n xs := by
  refine h.keep fun k hk => ?_
  obtain ⟨_, hlt, cur, hcur⟩ := h.block hk
  refine hO.kept.block hlt ?_
  rintro p ⟨j, h1, h2, rfl⟩ e'
  have hcp : 0 < c := by omega
  obtain ⟨_, _, cur', hcur'⟩ := hK.block (hb hcp)
  have e2 : b = k := e'
  subst e2
  rw [hcur] at hcur'
  cases hcur'
  exact he rfl

/-- Where a row of another type grows. -/
theorem LongOk.alloc {w : World} {B t : Nat} {K : List (Value × List (List UInt8))} {G : List Value} (h : LongOk w B K G t) (o : Obj) : LongOk (w.alloc o) B K G t := h.keep fun g hg => Below.heap_alloc w o g hg.lt
theorem LongOk.push {w w' : World} {B C t n : Nat} {K : List (Value × List (List UInt8))} {G : List Value} {e : TypeId} {v : Value} {xs : List Value} (h : LongOk w B K G t) (hG : Own w C e v n xs) (he : e ≠ 9) (hg : w.grownBy w' v.ownBlock) : LongOk w' B K G t :=
  h.keep fun g hg9 => hg.block g hg9.lt (fun e' => by
    obtain ⟨_, _, cur, hcur⟩ := hG.block e'.symm
    obtain ⟨cs, hcs⟩ := hg9
    rw [hcs] at hcur
    cases hcur
    exact he rfl)
theorem own_push {w w' : World} {B C n m : Nat} {e : TypeId} {vk vl : Value} {xs ys : List Value} (h : Own w B e vk n xs) (hk : ∀ k, vk.ownBlock = some k → k < C) (hG : Own w C e vl m ys) (hg : w.grownBy w' vl.ownBlock) : Own w' B e vk n xs :=
  h.keep fun k hk' => hg.block k (h.block hk').2.1 (fun e' => by
    have h1 := (hG.block e'.symm).1
    have h2 := hk k hk'
    omega)

/-- What lies below block B stands (the tape left aside). -/
structure Keeps (B : Nat) (w w' : World) : Prop where
  os : w'.os = w.os
  output : w'.output = w.output
  size : w.heap.size ≤ w'.heap.size
  block : ∀ k, k < B → w'.heap[k]? = w.heap[k]?
theorem Keeps.of_below {B : Nat} {w w' : World} (h : Below B w w') : Keeps B w w' := ⟨h.os, h.output, h.size, h.block⟩
theorem Keeps.trans {B : Nat} {a b c : World} (h : Keeps B a b) (k : Keeps B b c) : Keeps B a c :=
  ⟨k.os.trans h.os, k.output.trans h.output, Nat.le_trans h.size k.size, fun i hi => (k.block i hi).trans (h.block i hi)⟩
theorem Keeps.below {B : Nat} {a b c : World} (h : Keeps B a b) (k : Below b.heap.size b c) (hB : B ≤ b.heap.size) : Keeps B a c := h.trans (.of_below (k.mono hB))
theorem Keeps.alloc {B : Nat} {a b : World} (h : Keeps B a b) (hB : B ≤ b.heap.size) (o : Obj) : Keeps B a (b.alloc o) :=
  h.trans (.of_below ((Below.refl B b).alloc hB o))
theorem Keeps.grown {B : Nat} {a b c : World} {row : Option Nat} (h : Keeps B a b) (hg : b.grownBy c row) (hB : B ≤ b.heap.size) (hr : ∀ k, row = some k → B ≤ k) : Keeps B a c :=
  h.trans (.of_below ((Below.refl B b).grown hg hB hr))
theorem Keeps.onto {B : Nat} {a W w : World} {e : TypeId} {ao : Option Addr} {b n c m : Nat} {olds ks : List Value} {v : Value} (h : Keeps B a W) (hO : Onto W e 1 ao b 0 n c olds w v m ks) (hb : 0 < c → B ≤ b) (hB : B ≤ W.heap.size) : Keeps B a w :=
  h.trans ⟨hO.kept.1, hO.kept.2.1, hO.kept.size, fun k hk => hO.kept.block (Nat.lt_of_lt_of_le hk hB) (by
    rintro p ⟨j, h1, h2, rfl⟩ e'
    have hcp : 0 < c := by omega
    have := hb hcp
    have e2 : b = k := e'
    omega)⟩

theorem onto_form {W w : World} {e : TypeId} {ao : Option Addr} {b n c m : Nat} {olds ks : List Value} {v : Value} (hO : Onto W e 1 ao b 0 n c olds w v m ks) : ∃ a c', v = .slice a (n + m) c' := by
  rcases hO.val with ⟨_, h⟩ | ⟨_, h⟩
  · exact ⟨ao, c, h⟩
  · have h' : Own w W.heap.size e v (n + m) (olds ++ ks) := h
    exact h'.form

/-- Behind the 71 appends to list t. -/
theorem LongOk.next {W w : World} {B t : Nat} {K : List (Value × List (List UInt8))} {G : List Value} (h : LongOk W B K G t) (ht : t < K.length) {ao : Option Addr} {b c : Nat} {v : Value}
    (hv : K[t].1 = .slice ao K[t].2.length c) (hc : Came W 1 ao b 0 K[t].2.length c (scells K[t].2)) (hb : 0 < c → K[t].1.ownBlock = some b)
    (hO : Onto W 9 1 ao b 0 K[t].2.length c (scells K[t].2) w v 71 (List.replicate 71 (.string (strOf (moreW t))))) : LongOk w B K (G ++ [v]) (t + 1) := by
  have hsize : W.heap.size ≤ w.heap.size := hO.kept.size
  have hown := h.left t ht (Nat.le_refl _)
  -- another list's block
  have oth : ∀ k, k < W.heap.size → (0 < c → k ≠ b) → w.heap[k]? = W.heap[k]? := fun k hk hne => hO.kept.block hk (by
    rintro p ⟨j, h1, h2, rfl⟩ e
    have hcp : 0 < c := by omega
    exact hne hcp e.symm)
  have cells : ∀ g j, g < W.heap.size → (0 < c → g = b → j < K[t].2.length) → w.cell? ⟨g, j, none⟩ = W.cell? ⟨g, j, none⟩ := fun g j hg hj => hO.old hg (by
    rintro j' h1 h2 ⟨rfl, e⟩
    have hcp : 0 < c := by omega
    have := hj hcp rfl
    omega)
  have hvlast : v.ownBlock = some b ∧ 0 < c ∧ v.ownBlock = K[t].1.ownBlock ∨ (∀ k, v.ownBlock = some k → W.heap.size ≤ k) := by
    rcases hO.val with ⟨h1, h2⟩ | ⟨h1, h2⟩
    · have hcp : 0 < c := by omega
      left
      rw [h2, hc.addr hcp]
      refine ⟨rfl, hcp, ?_⟩
      rw [hb hcp]; rfl
    · right
      have h2' : Own w W.heap.size 9 v (K[t].2.length + 71) (scells K[t].2 ++ List.replicate 71 (.string (strOf (moreW t)))) := h2
      exact fun k hk => (h2'.block hk).1
  have hsc : scells K[t].2 ++ List.replicate 71 (.string (strOf (moreW t))) = scells (K[t].2 ++ List.replicate 71 (moreW t)) := by
    rw [scells_append]; congr 1
  have hlong : Reads w v (K[t].2 ++ List.replicate 71 (moreW t)) := by
    have hlen : (K[t].2 ++ List.replicate 71 (moreW t)).length = K[t].2.length + 71 := by simp
    rcases hO.val with ⟨h1, h2⟩ | ⟨h1, h2⟩
    · have hcp : 0 < c := by omega
      refine ⟨ao, c, by rw [hlen]; exact h2, fun j hj => ?_⟩
      obtain ⟨_, _, cur, hcur⟩ := hown.block (hb hcp)
      refine ⟨b, hc.addr hcp, T9.kept ⟨cur, hcur⟩ hO.kept, ?_⟩
      rw [hlen] at hj
      by_cases hjn : j < K[t].2.length
      · rw [cells b j (hc.lt hcp) (fun _ _ => hjn), List.getElem_append_left hjn]
        have := hc.olds j (.string (strOf K[t].2[j])) (by unfold scells; rw [List.getElem?_map, List.getElem?_eq_getElem hjn]; rfl)
        rw [Nat.zero_add] at this; exact this
      · have := hO.written (j - K[t].2.length) (by simp; omega) (by omega)
        rw [show 0 + K[t].2.length * 1 + (j - K[t].2.length) = j by omega] at this
        rw [this, List.getElem_append_right (by omega), List.getElem_replicate, List.getElem?_replicate, if_pos (by omega)]
    · have h2' : Own w W.heap.size 9 v (K[t].2 ++ List.replicate 71 (moreW t)).length (scells (K[t].2 ++ List.replicate 71 (moreW t))) := by
        rw [← hsc, hlen]; exact h2
      exact Reads.of_own h2'
  have gl : ∀ i (hi : i < (G ++ [v]).length), ¬ i < G.length → i = G.length := fun i hi hn => by simp at hi; omega
  refine ⟨by simp [h.len], fun i hK hi => ?_, fun i hi hK => ?_, fun i hi i' hK hti k hk => ?_, fun i hK hti => ?_, h.apart⟩
  · by_cases hit : i < t
    · obtain ⟨a, c', hva, hcells⟩ := h.kept i hK hit
      refine ⟨a, c', hva, fun j hj => ?_⟩
      obtain ⟨g, rfl, hg, hcell⟩ := hcells j hj
      refine ⟨g, rfl, hg.kept hO.kept, ?_⟩
      rw [cells g j hg.lt (fun hcp e => ?_)]
      · exact hcell
      · exfalso
        have h1 : K[i].1.ownBlock = some g := by rw [hva]; rfl
        exact h.apart i t hK ht (by omega) g h1 (by rw [hb hcp, e])
    · obtain rfl : i = t := by omega
      obtain ⟨a, c', hva, hcells⟩ := Reads.of_own hown
      refine ⟨a, c', hva, fun j hj => ?_⟩
      obtain ⟨g, rfl, hg, hcell⟩ := hcells j hj
      exact ⟨g, rfl, hg.kept hO.kept, by rw [cells g j hg.lt (fun _ _ => hj)]; exact hcell⟩
  · by_cases hig : i < G.length
    · rw [List.getElem_append_left hig]
      obtain ⟨a, c', hva, hcells⟩ := h.long i hig hK
      refine ⟨a, c', hva, fun j hj => ?_⟩
      obtain ⟨g, rfl, hg, hcell⟩ := hcells j hj
      refine ⟨g, rfl, hg.kept hO.kept, ?_⟩
      rw [cells g j hg.lt (fun hcp e => ?_)]
      · exact hcell
      · exfalso
        have h1 : G[i].ownBlock = some g := by rw [hva]; rfl
        exact h.blocks i hig t ht (Nat.le_refl _) g h1 (by rw [hb hcp, e])
    · have hil := gl i hi hig
      have hit : i = t := by rw [hil, h.len]
      subst hit
      rw [List.getElem_append_right (by omega)]
      have hz : i - G.length = 0 := by omega
      simp only [hz, List.getElem_cons_zero]
      exact hlong
  · by_cases hig : i < G.length
    · rw [List.getElem_append_left hig] at hk
      exact h.blocks i hig i' hK (by omega) k hk
    · have hil := gl i hi hig
      rw [List.getElem_append_right (by omega)] at hk
      simp only [hil, Nat.sub_self, List.getElem_cons_zero] at hk
      rcases hvlast with ⟨h1, h2, h3⟩ | h1
      · rw [h3] at hk
        exact h.apart t i' ht hK (by omega) k hk
      · intro e
        have hx := (h.left i' hK (by omega)).block e
        have := h1 k hk
        omega
  · refine (h.left i hK (by omega)).keep fun k hk => oth k ((h.left i hK (by omega)).block hk).2.1 (fun hcp e => ?_)
    exact h.apart i t hK ht (by omega) k hk (by rw [hb hcp, e])
end Go.Proofs.YtheflheeaiopfaaDoor
