/- A word of all bytes, quoted: what it is, and that the machine over bytes reads it back. No program in sight. -/
import Derived.Test.YtheflheeaiopfaaDoorWSpec
namespace Vl.W
set_option linter.unusedVariables false

/-- A hexadecimal digit's sign. -/
def hexSign (d : Nat) : UInt8 := if d < 10 then UInt8.ofNat (48 + d) else UInt8.ofNat (87 + d)
def qSign (c : UInt8) : UInt8 := if c = 92 then 92 else if c = 34 then 34 else if c = 10 then 110 else if c = 9 then 116 else 0
def qByte (c : UInt8) : List UInt8 :=
  if qSign c ≠ 0 then [92, qSign c]
  else if c.toNat < 32 ∨ 127 ≤ c.toNat then [92, 120, hexSign (c.toNat / 16), hexSign (c.toNat % 16)]
  else [c]
def qBody (l : List UInt8) : List UInt8 := l.flatMap qByte
def quote (l : List UInt8) : List UInt8 := 34 :: (qBody l ++ [34])

theorem qByte_len (c : UInt8) : (qByte c).length ≤ 4 := by
  unfold qByte; split
  · simp
  · split <;> simp
theorem qBody_len (l : List UInt8) : (qBody l).length ≤ 4 * l.length := by
  unfold qBody
  induction l with
  | nil => simp
  | cons c l ih =>
    have := qByte_len c
    simp only [List.flatMap_cons, List.length_append, List.length_cons]
    omega
theorem qBody_snoc (l : List UInt8) (c : UInt8) : qBody (l ++ [c]) = qBody l ++ qByte c := by simp [qBody]
theorem quote_len (l : List UInt8) : (quote l).length ≤ 4 * l.length + 2 := by
  have := qBody_len l
  unfold quote
  simp only [List.length_cons, List.length_append, List.length_nil]
  omega

theorem run_cons {s : RS} (c : UInt8) (l : List UInt8) (h : s.bad = false) : run (c :: l) s = run l (s.next c) := by
  show (if s.bad then s else run l (s.next c)) = _
  rw [h]; rfl

/-- Every byte's quoting, within quotes: the machine takes the byte. Tried at each byte by the kernel, over a state whose lists are variables. -/
def q1 (c : UInt8) : Bool :=
  let w := run (qByte c) ⟨2, [], [], 0, false⟩
  w.at_ == 2 && w.word == [c] && w.words == [] && w.bad == false
theorem q1_all : ∀ n : Fin 256, q1 (UInt8.ofNat n.val) = true := by decide +kernel

/-- A state's word and words stand ahead of what the machine adds. -/
def RS.pre (s : RS) (w : List UInt8) : RS := { s with word := w ++ s.word }
end Vl.W
