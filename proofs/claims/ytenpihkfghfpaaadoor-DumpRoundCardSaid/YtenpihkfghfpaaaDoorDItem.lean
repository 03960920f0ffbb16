/- Archives: what a right list of items is, and its bytes. Plain Lean; no program in sight. -/
import Derived.Test.YtenpihkfghfpaaaDoorDOrd
import Derived.Test.YtenpihkfghfpaaaDoorDSum
namespace Vl
set_option linter.unusedVariables false

structure Itm where
  kind : Int
  path : List UInt8
  target : List UInt8
  size : Int
  runs : List (Int × Int)
  data : List UInt8
deriving DecidableEq, Inhabited

/-- A file's rows: 'last': the end of the one ahead; 'count': how many blocks so far. -/
def runsB (cap : Int) : Int → Int → List (Int × Int) → Option (Int × Int)
  | last, count, [] => some (last, count)
  | last, count, (f, t) :: rs => if f ≤ last ∨ t ≤ f ∨ cap < t then none else runsB cap t (count + (t - f)) rs
/-- Rule 6. -/
def fileB (x : Itm) : Bool :=
  decide (0 ≤ x.size) && decide (x.size ≤ 8459264) && match runsB ((x.size + 511) / 512) (-1) 0 x.runs with
    | none => false
    | some (last, count) => decide ((x.data.length : Int) = 512 * count) && (decide (last ≤ 0) || (x.data.drop (x.data.length - (512 * last - x.size).toNat)).all (· == 0))

/-- The kind of the first item with that path; 0: there is none. -/
def kindAt (prev : List Itm) (p : List UInt8) : Int := ((prev.find? fun y => y.path == p).map (·.kind)).getD 0
def bareB (x : Itm) : Bool := decide (x.size = 0) && x.runs.isEmpty && x.data.isEmpty
def kindB (prev : List Itm) (x : Itm) : Bool :=
  if x.kind = 1 then x.target.isEmpty && fileB x
  else bareB x && (if x.kind = 2 then x.target.isEmpty
    else if x.kind = 3 then !x.target.isEmpty && decide (x.target.length ≤ 255) && !x.target.contains 0
    else if x.kind = 4 then decide (kindAt prev x.target = 1) else false)
/-- Is the item right behind those ahead of it? -/
def rightAt (prev : List Itm) (x : Itm) : Bool :=
  match partsB x.path with
  | none => false
  | some ps =>
    (match prev.getLast? with | none => true | some y => ltB (keyB y.path) (keyB x.path)) &&
    (decide (ps.length ≤ 1) || decide (kindAt prev (joinP ps.dropLast) = 2)) && kindB prev x
def rightFrom : List Itm → List Itm → Bool
  | _, [] => true
  | prev, x :: xs => rightAt prev x && rightFrom (prev ++ [x]) xs
def rightAll (l : List Itm) : Bool := rightFrom [] l

theorem rightFrom_append (prev l m : List Itm) : rightFrom prev (l ++ m) = (rightFrom prev l && rightFrom (prev ++ l) m) := by
  induction l generalizing prev with
  | nil => simp [rightFrom]
  | cons x l ih => simp [rightFrom, ih, Bool.and_assoc]

/-- A number's n bytes, the lowest first. -/
def leB : Nat → Nat → List UInt8
  | _, 0 => []
  | v, n + 1 => UInt8.ofNat (v % 256) :: leB (v / 256) n
theorem leB_length (v n : Nat) : (leB v n).length = n := by
  induction n generalizing v with
  | zero => rfl
  | succ n ih => simp [leB, ih]
/-- Bytes as a number. -/
def leV : List UInt8 → Nat
  | [] => 0
  | c :: l => c.toNat + 256 * leV l
theorem leV_leB (v n : Nat) (h : v < 256 ^ n) : leV (leB v n) = v := by
  induction n generalizing v with
  | zero => simp at h; subst h; rfl
  | succ n ih =>
    have h' : v / 256 < 256 ^ n := by
      rw [Nat.pow_succ] at h
      exact Nat.div_lt_of_lt_mul (by rw [Nat.mul_comm]; exact h)
    simp only [leB, leV, ih _ h']
    rw [UInt8.toNat_ofNat']
    omega
theorem leV_lt (l : List UInt8) : leV l < 256 ^ l.length := by
  induction l with
  | nil => simp [leV]
  | cons c l ih =>
    have := c.toNat_lt
    simp only [leV, List.length_cons, Nat.pow_succ]
    omega

def packRuns (rs : List (Int × Int)) : List UInt8 := rs.flatMap fun r => leB r.1.toNat 4 ++ leB r.2.toNat 4
/-- One item's bytes. -/
def packItm (x : Itm) : List UInt8 :=
  UInt8.ofNat x.kind.toNat :: (leB x.path.length 2 ++ x.path ++
    (if x.kind = 1 then leB x.size.toNat 8 ++ leB x.runs.length 4 ++ packRuns x.runs ++ x.data else []) ++
    (if x.kind = 3 ∨ x.kind = 4 then leB x.target.length 2 ++ x.target else []))
def magicB : List UInt8 := [118, 108, 109, 97, 114, 99, 104, 1]
def packBody (l : List Itm) : List UInt8 := magicB ++ l.flatMap packItm ++ [0] ++ leB l.length 4
def packAll (l : List Itm) : List UInt8 := packBody l ++ leB (crcOf (packBody l)) 4
/-- P1501. -/
def packSpec (l : List Itm) : List UInt8 × Nat :=
  if 4096 < l.length then ([], 7)
  else if rightAll l = false then ([], 150)
  else if 4194304 < (packAll l).length then ([], 7)
  else (packAll l, 0)
end Vl
