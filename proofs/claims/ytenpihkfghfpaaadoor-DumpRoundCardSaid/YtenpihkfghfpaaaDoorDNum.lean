/- A row of bytes of the call's own that grows; the reference's number. -/
import Derived.Test.YtenpihkfghfpaaaDoorDRight
import Derived.Maps.AppendAt
namespace Go.Proofs.YtenpihkfghfpaaaDoor
open Go.RowKit Vl
set_option linter.unusedVariables false

/-- Only the row's own block may turn; the row that comes out lies there or in a new block. -/
structure Row (w w' : World) (v v' : Value) : Prop where
  grown : w.grownBy w' v.ownBlock
  same : v'.ownBlock = v.ownBlock ∨ ∃ k, v'.ownBlock = some k ∧ w.heap.size ≤ k
theorem Row.refl (w : World) (v : Value) : Row w w v v := ⟨⟨rfl, rfl, rfl, Nat.le_refl _, fun _ _ _ => rfl⟩, .inl rfl⟩
theorem Row.trans {a b c : World} {u v x : Value} (h : Row a b u v) (k : Row b c v x) : Row a c u x := by
  refine ⟨⟨k.grown.os.trans h.grown.os, k.grown.tape.trans h.grown.tape, k.grown.output.trans h.grown.output, Nat.le_trans h.grown.size k.grown.size, fun i hi hne => ?_⟩, ?_⟩
  · rw [k.grown.block i (Nat.lt_of_lt_of_le hi h.grown.size) (fun e => ?_), h.grown.block i hi hne]
    rcases h.same with h1 | ⟨j, h1, h2⟩
    · exact hne (e.trans h1)
    · rw [h1] at e
      cases e
      omega
  · rcases k.same with h1 | ⟨j, h1, h2⟩
    · rcases h.same with h3 | ⟨j, h3, h4⟩
      · exact .inl (h1.trans h3)
      · exact .inr ⟨j, h1.trans h3, h4⟩
    · exact .inr ⟨j, h1, Nat.le_trans h.grown.size h2⟩
theorem Row.size {a b : World} {u v : Value} (h : Row a b u v) : a.heap.size ≤ b.heap.size := h.grown.size
/-- One append, behind the making of what is appended. -/
theorem Row.step {w w1 : World} {v v' : Value} {o : Obj} (hg : (w.alloc o).grownBy w1 v.ownBlock) (hs : v'.ownBlock = v.ownBlock ∨ v'.ownBlock = some (w.alloc o).heap.size) : Row w w1 v v' := by
  refine ⟨⟨hg.os, hg.tape, hg.output, Nat.le_trans (le_alloc (Nat.le_refl _) _) hg.size, fun i hi hne => ?_⟩, ?_⟩
  · rw [hg.block i (Nat.lt_of_lt_of_le hi (le_alloc (Nat.le_refl _) _)) hne, Below.heap_alloc w o i hi]
  · rcases hs with h | h
    · exact .inl h
    · exact .inr ⟨_, h, le_alloc (Nat.le_refl _) _⟩
theorem Row.below {w w' : World} {v v' : Value} {B : Nat} (h : Row w w' v v') (hB : B ≤ w.heap.size) (hv : ∀ k, v.ownBlock = some k → B ≤ k) : Below B w w' :=
  ⟨h.grown.os, h.grown.tape, h.grown.output, h.grown.size, fun k hk => h.grown.block k (by omega) (fun e => by have := hv k e.symm; omega)⟩
theorem Row.cell {w w' : World} {v v' : Value} (h : Row w w' v v') {a : Addr} (ha : a.block < w.heap.size) (hne : v.ownBlock ≠ some a.block) : w'.cell? a = w.cell? a :=
  World.cell?_of_block (h.grown.block a.block ha (fun e => hne e.symm))
theorem Row.call {w w' w'' : World} {v v' : Value} (h : Row w w' v v') (hb : Below w'.heap.size w' w'') : Row w w'' v v' :=
  ⟨⟨hb.os.trans h.grown.os, hb.tape.trans h.grown.tape, hb.output.trans h.grown.output, Nat.le_trans h.grown.size hb.size, fun k hk hne => by rw [hb.block k (Nat.lt_of_lt_of_le hk h.grown.size), h.grown.block k hk hne]⟩, h.same⟩

theorem leB_snoc (V n : Nat) : leB V (n + 1) = leB V n ++ [UInt8.ofNat (V / 256 ^ n % 256)] := by
  induction n generalizing V with
  | zero => simp [leB]
  | succ n ih =>
    rw [leB, ih (V / 256)]
    simp only [leB, List.cons_append]
    rw [Nat.div_div_eq_div_mul, Nat.pow_succ, Nat.mul_comm 256]

set_option maxRecDepth 100000 in
set_option maxHeartbeats 1000000 in
theorem number_walk (B : Nat) (v : Value) (l : List UInt8) (V n : Nat) (w : World) (hV : V < 4611686018427387904) (hn : n ≤ 8) (ho : Own w B 5 v l.length (bcells l)) (hB : B ≤ w.heap.size) (hl : l.length ≤ 1000000000) :
    Calls Tryd.prog 23 #[v, .int .i64 V, .int .i64 n] w fun e w' => ∃ v', e = .returned v' ∧ Own w' B 5 v' (l ++ leB V n).length (bcells (l ++ leB V n)) ∧ Row w w' v v' := by
  obtain ⟨i0, hi, hz0, hz1, hz2⟩ := info_parts info5
  have HO := Lib.hid ho
  clear ho
  go_enter Tryd.func23, Tryd.ntmps23
  go_wp2
  go_loopw [0, 1, 7] (fun v0 v1 v7 wr => ∃ j : Nat, j ≤ n ∧ v7 = .int .i64 j ∧ v1 = .int .i64 (V / 256 ^ j : Nat) ∧ Own wr B 5 v0 (l ++ leB V j).length (bcells (l ++ leB V j)) ∧ Row w wr v v0) (fun _ _ v7 _ => n - (intOf v7).toNat)
  case atStart => exact ⟨0, by omega, rfl, by simp, by simpa [leB] using HO.out, Row.refl _ _⟩
  case round =>
    obtain ⟨j, hj, rfl, rfl, ho, hr⟩ := hrel
    have HO2 := Lib.hid ho
    have HR := Lib.hid hr
    have hlen : (l ++ leB V j).length ≤ 1000000008 := by rw [List.length_append, leB_length]; omega
    have HSN := Lib.hid (leB_snoc V j)
    have hB2 : B ≤ wr.heap.size := Nat.le_trans hB hr.size
    clear ho hr
    by_cases hlt : j < n
    · have hz : V / 256 ^ j < 4611686018427387904 := Nat.lt_of_le_of_lt (Nat.div_le_self _ _) hV
      have HNX := Lib.hid (show V / 256 ^ (j + 1) = V / 256 ^ j / 256 by rw [Nat.pow_succ, Nat.div_div_eq_div_mul])
      have HBY := Lib.hid (show ((UInt8.ofNat (V / 256 ^ j % 256)).toNat : Int) = ((V / 256 ^ j : Nat) : Int) % 256 by rw [UInt8.toNat_ofNat']; omega)
      generalize V / 256 ^ j = z at *
      generalize hm : l ++ leB V j = m at *
      have HM := Lib.hid hm
      clear hm
      go_wp2_with (at_builtin; refine wpList_append_own_at _ rfl _ _ 24 rfl B 5 i0 (.int .u8 0) 1 1 Tryd.underlying24 hi hz0 hz1 hz2 rfl (by decide) _ m.length _ rfl (HO2.out.alloc _) ⟨wr.heap.size, 0, none⟩ 1 1 [_] rfl rfl (new_one _ _ _ _ rfl) (one_cell rfl) (by unfold maxLen; omega) (by omega) (le_alloc hB2 _) ?_)
      intro v1 w1 h1 hg1 _ hs1
      have e2 : l ++ leB V (j + 1) = m ++ [UInt8.ofNat (z % 256)] := by rw [HSN.out, ← List.append_assoc, HM.out]
      have HO3 : Hid (Own w1 B 5 v1 (l ++ leB V (j + 1)).length (bcells (l ++ leB V (j + 1)))) := by
        rw [e2, List.length_append, bcells_append, bcells_one, HBY.out]
        exact h1
      have HR3 := Lib.hid (HR.out.trans (Row.step hg1 (by rw [size_alloc]; exact hs1)))
      clear h1 hg1 hs1 e2
      go_wp2
      go_roundw
      case rel => exact ⟨j + 1, by omega, by go_num, by rw [HNX.out]; exact congrArg (Value.int .i64) (by omega), HO3.out, HR3.out⟩
      case measure => simp [intOf]; omega
    · obtain rfl : j = n := by omega
      go_wp2
      go_ret
      exact ⟨_, rfl, HO2.out, HR.out⟩
end Go.Proofs.YtenpihkfghfpaaaDoor
