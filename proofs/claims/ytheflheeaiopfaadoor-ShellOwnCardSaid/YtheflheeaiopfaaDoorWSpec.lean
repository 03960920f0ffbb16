/- What the words of a line are, in plain Lean: a machine over bytes. No program in sight. -/
import Derived.Lib.Hide
namespace Vl.W
set_option linter.unusedVariables false

structure RS where
  at_ : Nat
  word : List UInt8
  words : List (List UInt8)
  hex : Int
  bad : Bool

def init : RS := ⟨0, [], [], 0, false⟩

def blank (c : UInt8) : Bool := c == 32 || c == 9
def low (c : UInt8) : Bool := decide (c.toNat < 32) || c == 127

def hexOf (c : UInt8) : Int :=
  if 48 ≤ c.toNat ∧ c.toNat ≤ 57 then (c.toNat : Int) - 48
  else if 97 ≤ c.toNat ∧ c.toNat ≤ 102 then (c.toNat : Int) - 87
  else if 65 ≤ c.toNat ∧ c.toNat ≤ 70 then (c.toNat : Int) - 55
  else -1

theorem hexOf_range (c : UInt8) : -1 ≤ hexOf c ∧ hexOf c ≤ 15 := by
  unfold hexOf; split
  · omega
  · split
    · omega
    · split <;> omega

def RS.ends (s : RS) : RS := { s with words := s.words ++ [s.word], word := [] }
def RS.push (s : RS) (c : UInt8) : RS := { s with word := s.word ++ [c] }
def badPlain (c : UInt8) : Bool := low c || c == 34 || c == 92
def RS.plain (s : RS) (c : UInt8) : RS := { s with bad := s.bad || badPlain c, word := s.word ++ [c] }

def RS.first (s : RS) (c : UInt8) : RS :=
  if blank c then { s with at_ := 0 }
  else if c == 35 then { s with at_ := 7 }
  else if c == 34 then { s with at_ := 2 }
  else RS.plain { s with at_ := 1 } c

def RS.inside (s : RS) (c : UInt8) : RS :=
  if c == 34 then { s.ends with at_ := 6 }
  else if c == 92 then { s with at_ := 3 }
  else if low c then { s with bad := true }
  else s.push c

def RS.escaped (s : RS) (c : UInt8) : RS :=
  if c == 92 || c == 34 then { s.push c with at_ := 2 }
  else if c == 110 then { s.push 10 with at_ := 2 }
  else if c == 116 then { s.push 9 with at_ := 2 }
  else if c == 120 then { s with at_ := 4 }
  else { s with at_ := 2, bad := true }

def byteOf (n : Int) : UInt8 := UInt8.ofNat (n % 256).toNat

def RS.next (s : RS) (c : UInt8) : RS :=
  if s.at_ = 0 then s.first c
  else if s.at_ = 1 then (if blank c then { s.ends with at_ := 0 } else s.plain c)
  else if s.at_ = 2 then s.inside c
  else if s.at_ = 3 then s.escaped c
  else if s.at_ = 4 then { s with hex := hexOf c, at_ := 5, bad := s.bad || decide (hexOf c < 0) }
  else if s.at_ = 5 then (if hexOf c < 0 then { s with bad := true, at_ := 2 } else { s.push (byteOf (16 * s.hex + hexOf c)) with at_ := 2 })
  else if s.at_ = 6 then { s with at_ := 0, bad := s.bad || !blank c }
  else s

/-- The reading ends where something bad was met. -/
def run : List UInt8 → RS → RS
  | [], s => s
  | c :: l, s => if s.bad then s else run l (s.next c)

/-- The words that are told, or nothing. -/
def told (s : RS) : Option (List (List UInt8)) :=
  let t := if s.at_ = 1 then s.ends else s
  if s.bad || t.at_ == 2 || t.at_ == 3 || t.at_ == 4 || t.at_ == 5 then none else some t.words

def wordsOf (l : List UInt8) : Option (List (List UInt8)) := told (run l init)

theorem run_bad (l : List UInt8) {s : RS} (h : s.bad = true) : run l s = s := by
  cases l with
  | nil => rfl
  | cons c l => simp [run, h]

theorem run_append (l m : List UInt8) (s : RS) : run (l ++ m) s = run m (run l s) := by
  induction l generalizing s with
  | nil => rfl
  | cons c l ih =>
    simp only [List.cons_append, run]
    split
    · rename_i h; rw [run_bad m h]
    · exact ih _

theorem run_snoc (l : List UInt8) (c : UInt8) (s : RS) (h : (run l s).bad = false) : run (l ++ [c]) s = (run l s).next c := by
  rw [run_append]; simp [run, h]

/-- Lengths and places. -/
structure Fit (s : RS) (n : Nat) : Prop where
  word : s.word.length ≤ n
  words : s.words.length ≤ n
  hex : -1 ≤ s.hex ∧ s.hex ≤ 15
  at_ : s.at_ ≤ 7
  neg : s.at_ = 5 → s.bad = false → 0 ≤ s.hex

theorem Fit.next {s : RS} {n : Nat} (h : Fit s n) (c : UInt8) : Fit (s.next c) (n + 1) := by
  obtain ⟨h1, h2, h3, h4, h5⟩ := h
  have hx := hexOf_range c
  unfold RS.next
  split
  · unfold RS.first RS.plain; (repeat' split) <;> (constructor <;> simp <;> omega)
  split
  · unfold RS.plain; split <;> (constructor <;> simp [RS.ends] <;> omega)
  split
  · unfold RS.inside; (repeat' split) <;> (constructor <;> simp [RS.ends, RS.push] <;> omega)
  split
  · unfold RS.escaped; (repeat' split) <;> (constructor <;> simp [RS.push] <;> omega)
  split
  · constructor <;> simp <;> omega
  split
  · split <;> (constructor <;> simp [RS.push] <;> omega)
  split
  · constructor <;> simp <;> omega
  · constructor <;> first | omega | (intro h; omega)

theorem Fit.init : Fit init 0 := by constructor <;> simp [W.init]

theorem Fit.run (l : List UInt8) {s : RS} {n : Nat} (h : Fit s n) : Fit (run l s) (n + l.length) := by
  induction l generalizing s n with
  | nil => exact h
  | cons c l ih =>
    unfold W.run
    split
    · exact ⟨by have := h.word; omega, by have := h.words; omega, h.hex, h.at_, h.neg⟩
    · have := ih (h.next c)
      simp only [List.length_cons]
      rw [show n + (l.length + 1) = n + 1 + l.length by omega]
      exact this
end Vl.W
