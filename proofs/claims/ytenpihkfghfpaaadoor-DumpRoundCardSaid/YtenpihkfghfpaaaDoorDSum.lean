/- The checksum: bit by bit, and half a byte at once by a table. Plain Lean; no program in sight. -/
namespace Vl
set_option linter.unusedVariables false

def crcP : Nat := 0x82F63B78
def crcOnes : Nat := 4294967295
/-- One bit. -/
def crcBit (r : Nat) : Nat := if r % 2 = 1 then (r / 2) ^^^ crcP else r / 2
def crcByte (r : Nat) : Nat := crcBit (crcBit (crcBit (crcBit (crcBit (crcBit (crcBit (crcBit r)))))))
def crcRun (r : Nat) (l : List UInt8) : Nat := l.foldl (fun r c => crcByte (r ^^^ c.toNat)) r
/-- The sum of the bytes. -/
def crcOf (l : List UInt8) : Nat := crcRun crcOnes l ^^^ crcOnes

theorem crcRun_cons (r : Nat) (c : UInt8) (l : List UInt8) : crcRun r (c :: l) = crcRun (crcByte (r ^^^ c.toNat)) l := rfl
theorem crcRun_append (r : Nat) (l m : List UInt8) : crcRun r (l ++ m) = crcRun (crcRun r l) m := by
  induction l generalizing r with
  | nil => rfl
  | cons c l ih => rw [List.cons_append, crcRun_cons, crcRun_cons, ih]

theorem xor_half (a b : Nat) : (a ^^^ b) / 2 = (a / 2) ^^^ (b / 2) := by
  apply Nat.eq_of_testBit_eq
  intro i
  simp [Nat.testBit_xor, ← Nat.testBit_succ]
theorem xor_odd (a b : Nat) : (a ^^^ b) % 2 = (a % 2 + b % 2) % 2 := by
  have h := Nat.testBit_xor a b 0
  simp only [Nat.testBit_zero] at h
  rcases Nat.mod_two_eq_zero_or_one a with ha | ha <;> rcases Nat.mod_two_eq_zero_or_one b with hb | hb <;> rcases Nat.mod_two_eq_zero_or_one (a ^^^ b) with hc | hc <;> simp_all

theorem crcBit_xor (a b : Nat) : crcBit (a ^^^ b) = crcBit a ^^^ crcBit b := by
  unfold crcBit
  rw [xor_odd, xor_half]
  rcases Nat.mod_two_eq_zero_or_one a with ha | ha <;> rcases Nat.mod_two_eq_zero_or_one b with hb | hb
  · simp [ha, hb]
  · simp [ha, hb, Nat.xor_assoc]
  · simp only [ha, hb, Nat.add_zero, if_true, Nat.reduceMod]
    rw [if_neg (by decide), Nat.xor_assoc, Nat.xor_comm (b / 2) crcP, ← Nat.xor_assoc]
  · simp only [ha, hb, if_true]
    rw [if_neg (by decide)]
    rw [Nat.xor_comm (b / 2) crcP, Nat.xor_assoc, ← Nat.xor_assoc crcP crcP, Nat.xor_self, Nat.zero_xor]
theorem crcBit_even (q : Nat) : crcBit (2 * q) = q := by
  unfold crcBit
  rw [if_neg (by omega)]
  omega
theorem crcBit_lt {r : Nat} (h : r < 4294967296) : crcBit r < 4294967296 := by
  unfold crcBit
  split
  · exact Nat.xor_lt_two_pow (n := 32) (by omega) (by decide)
  · omega

/-- Four bits. -/
def crc4 (r : Nat) : Nat := crcBit (crcBit (crcBit (crcBit r)))
theorem crc4_xor (a b : Nat) : crc4 (a ^^^ b) = crc4 a ^^^ crc4 b := by simp [crc4, crcBit_xor]
theorem crc4_sixteen (q : Nat) : crc4 (16 * q) = q := by
  unfold crc4
  rw [show 16 * q = 2 * (2 * (2 * (2 * q))) by omega]
  simp [crcBit_even]
theorem crcByte_eq (r : Nat) : crcByte r = crc4 (crc4 r) := rfl
theorem crc4_lt {r : Nat} (h : r < 4294967296) : crc4 r < 4294967296 := crcBit_lt (crcBit_lt (crcBit_lt (crcBit_lt h)))

/-- The table of halves of bytes. -/
def crcTab : List Nat := [0x00000000, 0x105ec76f, 0x20bd8ede, 0x30e349b1, 0x417b1dbc, 0x5125dad3, 0x61c69362, 0x7198540d, 0x82f63b78, 0x92a8fc17, 0xa24bb5a6, 0xb21572c9, 0xc38d26c4, 0xd3d3e1ab, 0xe330a81a, 0xf36e6f75]
theorem crcTab_eq : ∀ t, t < 16 → crc4 t = crcTab.getD t 0 := by decide
theorem split16 (r : Nat) : r = (16 * (r / 16)) ^^^ (r % 16) := by
  apply Nat.eq_of_testBit_eq
  intro i
  rw [Nat.testBit_xor, show r % 16 = r % 2 ^ 4 from rfl, Nat.testBit_mod_two_pow, show 16 * (r / 16) = 2 ^ 4 * (r / 2 ^ 4) from rfl, Nat.testBit_two_pow_mul, Nat.testBit_div_two_pow]
  by_cases h : i < 4
  · have h' : ¬ 4 ≤ i := by omega
    simp [h, h']
  · have h' : 4 ≤ i := by omega
    have e : i - 4 + 4 = i := by omega
    simp [h, h', e]
theorem crc4_tab (r : Nat) : crc4 r = (r / 16) ^^^ crcTab.getD (r % 16) 0 := by
  conv => lhs; rw [split16 r]
  rw [crc4_xor, crc4_sixteen, crcTab_eq _ (Nat.mod_lt _ (by decide))]

theorem crcByte_lt {r : Nat} (h : r < 4294967296) : crcByte r < 4294967296 := crc4_lt (crc4_lt h)
theorem crcRun_lt {r : Nat} (h : r < 4294967296) (l : List UInt8) : crcRun r l < 4294967296 := by
  induction l generalizing r with
  | nil => exact h
  | cons c l ih => rw [crcRun_cons]; exact ih (crcByte_lt (Nat.xor_lt_two_pow (n := 32) h (by have := c.toNat_lt; omega)))
theorem crcOf_lt (l : List UInt8) : crcOf l < 4294967296 := Nat.xor_lt_two_pow (n := 32) (crcRun_lt (by decide) l) (by decide)
end Vl
