/- The law's changes: plain Lean. -/
import Derived.Test.YtenpihkfghfpaaaDoorDParse
namespace Vl
set_option linter.unusedVariables false

def byteI (v : Int) : UInt8 := UInt8.ofNat (v % 256).toNat
/-- What a change makes of the byte at i. -/
def chStep (k v : Int) (at' i : Nat) (c : UInt8) : List UInt8 :=
  if i = at' ∧ k = 1 then [] else if i = at' ∧ k = 2 then [c, c] else if at' ≤ i ∧ k = 3 then [] else if i = at' ∧ k = 0 then [c ^^^ byteI v] else [c]
def chRaw (k v : Int) (at' : Nat) : Nat → List UInt8 → List UInt8
  | _, [] => []
  | i, c :: r => chStep k v at' i c ++ chRaw k v at' (i + 1) r
theorem chRaw_snoc (k v : Int) (at' : Nat) (l : List UInt8) (c : UInt8) (j : Nat) : chRaw k v at' j (l ++ [c]) = chRaw k v at' j l ++ chStep k v at' (j + l.length) c := by
  induction l generalizing j with
  | nil => simp [chRaw]
  | cons d l ih =>
    simp only [List.cons_append, chRaw, ih, List.length_cons, List.append_assoc]
    rw [show j + 1 + l.length = j + (l.length + 1) by omega]
theorem chRaw_take (k v : Int) (at' : Nat) (b : List UInt8) (i : Nat) (h : i < b.length) : chRaw k v at' 0 (b.take (i + 1)) = chRaw k v at' 0 (b.take i) ++ chStep k v at' i b[i] := by
  rw [List.take_succ_eq_append_getElem h, chRaw_snoc, List.length_take, Nat.min_eq_left (by omega), Nat.zero_add]
theorem chStep_len (k v : Int) (at' i : Nat) (c : UInt8) : (chStep k v at' i c).length ≤ 2 := by
  unfold chStep
  split
  · simp
  · split
    · simp
    · split
      · simp
      · split <;> simp
theorem chRaw_len (k v : Int) (at' : Nat) (b : List UInt8) (j : Nat) : (chRaw k v at' j b).length ≤ b.length + (if j ≤ at' then 1 else 0) := by
  induction b generalizing j with
  | nil => simp [chRaw]
  | cons c b ih =>
    rw [chRaw, List.length_append, List.length_cons]
    have h1 := ih (j + 1)
    have h2 : (chStep k v at' j c).length ≤ 1 + (if j = at' then 1 else 0) := by
      by_cases hj : j = at'
      · rw [if_pos hj]; exact chStep_len k v at' j c
      · rw [if_neg hj]; unfold chStep
        simp only [hj, false_and, if_false]
        split <;> simp
    by_cases hj : j = at'
    · rw [if_pos hj] at h2
      rw [if_neg (by omega)] at h1
      rw [if_pos (by omega)]
      omega
    · rw [if_neg hj] at h2
      by_cases hlt : j < at'
      · rw [if_pos (by omega)] at h1
        rw [if_pos (by omega)]
        omega
      · rw [if_neg (by omega)] at h1
        rw [if_neg (by omega)]
        omega
/-- The right sum behind it. -/
def chSum (s : Bool) (out : List UInt8) : List UInt8 := if s = true ∧ 4 ≤ out.length then out.take (out.length - 4) ++ leB (crcOf (out.take (out.length - 4))) 4 else out
theorem chSum_len (s : Bool) (out : List UInt8) : (chSum s out).length = out.length := by
  unfold chSum
  split
  · rw [List.length_append, List.length_take, leB_length]; omega
  · rfl
/-- Where a change lies. -/
def chAt (n : Nat) (a : Int) (back : Bool) : Nat := if back = true then n - 1 - (a % n).toNat else (a % n).toNat
def changedB (b : List UInt8) (k a v : Int) (back sum : Bool) : List UInt8 := if b = [] then [] else chSum sum (chRaw k v (chAt b.length a back) 0 b)
theorem changedB_len (b : List UInt8) (k a v : Int) (back sum : Bool) : (changedB b k a v back sum).length ≤ b.length + 1 := by
  unfold changedB
  split
  · simp
  · rw [chSum_len]
    have := chRaw_len k v (chAt b.length a back) b 0
    split at this <;> omega
end Vl
