/- The checksum: bit by bit, and half a byte at once by a table. Plain Lean; no program in sight. -/
set_option linter.unusedSimpArgs false
set_option linter.unusedVariables false
namespace Vl
set_option linter.unusedVariables false

def crcP : Nat := 0x82F63B78
def crcOnes : Nat := 4294967295
/-- One bit. -/
def crcBit (r : Nat) : Nat := if r % 2 = 1 then (r / 2) ^^^ crcP else r / 2
def crcByte (r : Nat) : Nat := crcBit (crcBit (crcBit (crcBit (crcBit (crcBit (crcBit (crcBit r)))))))
def crcRun (r : Nat) (l : List UInt8) : Nat := l.foldl (fun r c => crcByte (r ^^^ c.toNat)) r
/-- The sum of the bytes. -/
def crcOf (l : List UInt8) : Nat := crcRun crcOnes l ^^^ crcOnes

theorem crcRun_cons (r : Nat) (c : UInt8) (l : List UInt8) : crcRun r (c :: l) = crcRun (crcByte (r ^^^ c.toNat)) l := rfl
theorem crcRun_append (r : Nat) (l m : List UInt8) : crcRun r (l ++ m) = crcRun (crcRun r l) m := by
  induction l generalizing r with
  | nil => rfl
  | cons c l ih => rw [List.cons_append, crcRun_cons, crcRun_cons, ih]

theorem xor_half (a b : Nat) : (a ^^^ b) / 2 = (a / 2) ^^^ (b / 2) := by
  apply Nat.eq_of_testBit_eq
  intro i
  simp [Nat.testBit_xor, ← Nat.testBit_succ]
theorem xor_odd (a b : Nat) : (a ^^^ b) % 2 = (a % 2 + b % 2) % 2 := by
  have h := Nat.testBit_xor a b 0
  simp only [Nat.testBit_zero] at h
  rcases Nat.mod_two_eq_zero_or_one a with ha | ha <;> rcases Nat.mod_two_eq_zero_or_one b with hb | hb <;> rcases Nat.mod_two_eq_zero_or_one (a ^^^ b) with hc | hc <;> simp_all

theorem crcBit_xor (a b : Nat) : crcBit (a ^^^ b) = crcBit a ^^^ crcBit b := by
  unfold crcBit
  rw [xor_odd, xor_half]
  rcases Nat.mod_two_eq_zero_or_one a with ha | ha <;> rcases Nat.mod_two_eq_zero_or_one b with hb | hb
  · simp [ha, hb]
  · simp [ha, hb, Nat.xor_assoc]
  · simp only [ha, hb, Nat.add_zero, if_true, Nat.reduceMod]
    rw [if_neg (by decide), Nat.xor_assoc, Nat.xor_comm (b / 2) crcP, ← Nat.xor_assoc]
  · simp only [ha, hb, if_true]
    rw [if_neg (by decide)]
    rw [Nat.xor_comm (b / 2) crcP, Nat.xor_assoc, ← Nat.xor_assoc crcP crcP, Nat.xor_self, Nat.zero_xor]
theorem crcBit_even (q : Nat) : crcBit (2 * q) = q := by
  unfold crcBit
  rw [if_neg (by omega)]
  omega
theorem crcBit_lt {r : Nat} (h : r < 4294967296) : crcBit r < 4294967296 := by
  unfold crcBit
  split
  · exact Nat.xor_lt_two_pow (n := 32) (by omega) (by decide)
  · omega

/-- Four bits. -/
def crc4 (r : Nat) : Nat := crcBit (crcBit (crcBit (crcBit r)))
theorem crc4_xor (a b : Nat) : crc4 (a ^^^ b) = crc4 a ^^^ crc4 b := by simp [crc4, crcBit_xor]
theorem crc4_sixteen (q : Nat) : crc4 (16 * q) = q := by
  unfold crc4
  rw [show 16 * q = 2 * (2 * (2 * (2 * q))) by omega]
  simp [crcBit_even]
theorem crcByte_eq (r : Nat) : crcByte r = crc4 (crc4 r) := rfl
theorem crc4_lt {r : Nat} (h : r < 4294967296) : crc4 r < 4294967296 := crcBit_lt (crcBit_lt (crcBit_lt (crcBit_lt h)))

/-- The table of halves of bytes. -/
def crcTab : List Nat := [0x00000000, 0x105ec76f, 0x20bd8ede, 0x30e349b1, 0x417b1dbc, 0x5125dad3, 0x61c69362, 0x7198540d, 0x82f63b78, 0x92a8fc17, 0xa24bb5a6, 0xb21572c9, 0xc38d26c4, 0xd3d3e1ab, 0xe330a81a, 0xf36e6f75]
theorem crcTab_eq : ∀ t, t < 16 → crc4 t = crcTab.getD t 0 := by decide
theorem split16 (r : Nat) : r = (16 * (r / 16)) ^^^ (r % 16) := by
  apply Nat.eq_of_testBit_eq
  intro i
  rw [Nat.testBit_xor, show r % 16 = r % 2 ^ 4 from rfl, Nat.testBit_mod_two_pow, show 16 * (r / 16) = 2 ^ 4 * (r / 2 ^ 4) from rfl, Nat.testBit_two_pow_mul, Nat.testBit_div_two_pow]
  by_cases h : i < 4
  · have h' : ¬ 4 ≤ i := by omega
    simp [h, h']
  · have h' : 4 ≤ i := by omega
    have e : i - 4 + 4 = i := by omega
    simp [h, h', e]
theorem crc4_tab (r : Nat) : crc4 r = (r / 16) ^^^ crcTab.getD (r % 16) 0 := by
  conv => lhs; rw [split16 r]
  rw [crc4_xor, crc4_sixteen, crcTab_eq _ (Nat.mod_lt _ (by decide))]

theorem crcByte_lt {r : Nat} (h : r < 4294967296) : crcByte r < 4294967296 := crc4_lt (crc4_lt h)
theorem crcRun_lt {r : Nat} (h : r < 4294967296) (l : List UInt8) : crcRun r l < 4294967296 := by
  induction l generalizing r with
  | nil => exact h
  | cons c l ih => rw [crcRun_cons]; exact ih (crcByte_lt (Nat.xor_lt_two_pow (n := 32) h (by have := c.toNat_lt; omega)))
theorem crcOf_lt (l : List UInt8) : crcOf l < 4294967296 := Nat.xor_lt_two_pow (n := 32) (crcRun_lt (by decide) l) (by decide)
end Vl
/- Numbers as bytes, the lowest first. Plain Lean; no program in sight. -/
namespace Vl
set_option linter.unusedVariables false

/-- A number's n bytes, the lowest first. -/
def leB : Nat → Nat → List UInt8
  | _, 0 => []
  | v, n + 1 => UInt8.ofNat (v % 256) :: leB (v / 256) n
theorem leB_length (v n : Nat) : (leB v n).length = n := by
  induction n generalizing v with
  | zero => rfl
  | succ n ih => simp [leB, ih]
/-- Bytes as a number. -/
def leV : List UInt8 → Nat
  | [] => 0
  | c :: l => c.toNat + 256 * leV l
theorem leV_leB (v n : Nat) (h : v < 256 ^ n) : leV (leB v n) = v := by
  induction n generalizing v with
  | zero => simp at h; subst h; rfl
  | succ n ih =>
    have h' : v / 256 < 256 ^ n := by
      rw [Nat.pow_succ] at h
      exact Nat.div_lt_of_lt_mul (by rw [Nat.mul_comm]; exact h)
    simp only [leB, leV, ih _ h']
    rw [UInt8.toNat_ofNat']
    omega
theorem leV_lt (l : List UInt8) : leV l < 256 ^ l.length := by
  induction l with
  | nil => simp [leV]
  | cons c l ih =>
    have := c.toNat_lt
    simp only [leV, List.length_cons, Nat.pow_succ]
    omega
theorem leB_leV (l : List UInt8) : leB (leV l) l.length = l := by
  induction l with
  | nil => rfl
  | cons c l ih =>
    have := c.toNat_lt
    show leB (c.toNat + 256 * leV l) (l.length + 1) = _
    rw [leB, show (c.toNat + 256 * leV l) % 256 = c.toNat by omega, show (c.toNat + 256 * leV l) / 256 = leV l by omega, ih]
    simp
end Vl
/- Sealed sectors: plain Lean; no program in sight. -/
namespace Vl
set_option linter.unusedVariables false

/-- What the sum is laid over: the length, the body, zeros. -/
def sealText (body : List UInt8) : List UInt8 := leB body.length 2 ++ (body ++ List.replicate (504 - body.length) 0)
/-- The sealed sector. -/
def sealSec (t : UInt8) (body : List UInt8) : List UInt8 :=
  t :: (leB body.length 2 ++ (leB (crcOf (sealText body)) 4 ++ (body ++ List.replicate (504 - body.length) 0 ++ [t])))
theorem sealText_length {body : List UInt8} (h : body.length ≤ 504) : (sealText body).length = 506 := by
  unfold sealText
  simp only [List.length_append, leB_length, List.length_replicate]; omega
theorem sealSec_length (t : UInt8) {body : List UInt8} (h : body.length ≤ 504) : (sealSec t body).length = 512 := by
  unfold sealSec
  simp only [List.length_append, List.length_cons, leB_length, List.length_replicate, List.length_nil]; omega

/-- The length that a sector tells. -/
def saidLen (l : List UInt8) : Nat := leV ((l.drop 1).take 2)
def saidBody (l : List UInt8) : List UInt8 := (l.drop 7).take (saidLen l)
/-- The body of a sealed sector. -/
def openB (l : List UInt8) : Option (List UInt8) :=
  if (l.getD 0 0).toNat < 3 ∧ saidLen l ≤ 504 ∧ l = sealSec (l.getD 0 0) (saidBody l) then some (saidBody l) else none
theorem seal_len {t : UInt8} {body : List UInt8} (h : body.length ≤ 504) : saidLen (sealSec t body) = body.length := by
  unfold saidLen sealSec
  show leV (List.take 2 (leB body.length 2 ++ _)) = _
  rw [List.take_left' (leB_length _ _), leV_leB _ _ (by omega)]
theorem seal_body {t : UInt8} {body : List UInt8} (h : body.length ≤ 504) : saidBody (sealSec t body) = body := by
  unfold saidBody
  rw [seal_len h]
  unfold sealSec
  show List.take _ (List.drop 6 (leB body.length 2 ++ (leB (crcOf (sealText body)) 4 ++ _))) = _
  rw [← List.append_assoc, List.drop_left' (by rw [List.length_append, leB_length, leB_length]), List.append_assoc, List.take_left]
theorem openB_seal {t : UInt8} {body : List UInt8} (ht : t.toNat < 3) (h : body.length ≤ 504) : openB (sealSec t body) = some body := by
  unfold openB
  rw [seal_len h, seal_body h]
  exact if_pos ⟨ht, h, rfl⟩
theorem openB_len {l body : List UInt8} (h : openB l = some body) : body.length ≤ 504 ∧ l.length = 512 ∧ saidLen l = body.length ∧ l = sealSec (l.getD 0 0) body ∧ (l.getD 0 0).toNat < 3 := by
  unfold openB at h
  split at h
  · rename_i hc
    obtain ⟨h1, h2, h3⟩ := hc
    have e := Option.some.inj h
    have hle : body.length ≤ 504 := by
      rw [← e]
      unfold saidBody
      rw [List.length_take]
      omega
    rw [e] at h3
    have h4 : saidLen l = body.length := by
      have := congrArg saidLen h3
      rw [seal_len hle] at this
      exact this
    exact ⟨hle, by rw [h3]; exact sealSec_length _ hle, h4, h3, h1⟩
  · cases h
theorem seal_sum (t : UInt8) (body : List UInt8) : ((sealSec t body).drop 3).take 4 = leB (crcOf (sealText body)) 4 := by
  unfold sealSec
  generalize crcOf (sealText body) = c
  show List.take 4 (List.drop 2 (leB body.length 2 ++ _)) = _
  rw [List.drop_left' (leB_length _ _), List.take_left' (leB_length _ _)]
/-- A sector of zeros. -/
def zsec : List UInt8 := List.replicate 512 0
theorem zsec_length : zsec.length = 512 := List.length_replicate
theorem zsec_cut (a b : Nat) (h : a + b ≤ 512) : (zsec.drop a).take b = List.replicate b 0 := by
  unfold zsec
  rw [List.drop_replicate, List.take_replicate, Nat.min_eq_left (by omega)]
set_option maxRecDepth 100000 in
theorem crc_zero_text : crcOf (List.replicate 506 0) ≠ 0 := by decide +kernel
theorem not_seal_zero (t : UInt8) : zsec ≠ sealSec t [] := by
  intro h
  have h3 : leV ((zsec.drop 3).take 4) = leV (((sealSec t []).drop 3).take 4) := by rw [← h]
  rw [zsec_cut 3 4 (by omega)] at h3
  have e : sealText [] = List.replicate 506 0 := rfl
  rw [seal_sum, e, leV_leB _ _ (crcOf_lt _)] at h3
  have hz := crc_zero_text
  generalize crcOf (List.replicate 506 0) = c at *
  exact hz h3.symm
/-- Zeros are not sealed. -/
theorem openB_zero : openB zsec = none := by
  have h1 : saidLen zsec = 0 := by
    unfold saidLen
    rw [zsec_cut 1 2 (by omega)]; rfl
  have h2 : saidBody zsec = [] := by unfold saidBody; rw [h1, List.take_zero]
  unfold openB
  rw [h2]
  exact if_neg fun h => not_seal_zero _ h.2.2

/-- The number of an anchor: 0: it is none. -/
def anchorN (l : List UInt8) : Nat :=
  match openB l with
  | none => 0
  | some b => if b.length < 8 ∨ 2 ^ 63 ≤ leV (b.take 8) then 0 else leV (b.take 8)
def anchorD (l : List UInt8) : List UInt8 := if anchorN l = 0 then [] else (saidBody l).drop 8
theorem anchorN_none {l : List UInt8} (h : openB l = none) : anchorN l = 0 := by unfold anchorN; rw [h]
theorem anchorN_zero : anchorN zsec = 0 := anchorN_none openB_zero
theorem anchorN_seal {t : UInt8} {v : Nat} (ht : t.toNat < 3) (hv : v < 2 ^ 63) : anchorN (sealSec t (leB v 8)) = v := by
  unfold anchorN
  rw [openB_seal ht (by rw [leB_length]; omega)]
  show (if (leB v 8).length < 8 ∨ 2 ^ 63 ≤ leV ((leB v 8).take 8) then 0 else leV ((leB v 8).take 8)) = v
  rw [List.take_of_length_le (by rw [leB_length]; omega), leV_leB _ _ (by omega), leB_length]
  rw [if_neg (by omega)]
theorem anchorD_seal {t : UInt8} {v : Nat} : anchorD (sealSec t (leB v 8)) = [] := by
  unfold anchorD
  split
  · rfl
  · rw [seal_body (by rw [leB_length]; omega), List.drop_eq_nil_of_le (by rw [leB_length]; omega)]

/-- The turn that neither end has. -/
def turnOf (a b : UInt8) : UInt8 := if a.toNat ≠ 0 ∧ b.toNat ≠ 0 then 0 else if a.toNat ≠ 1 ∧ b.toNat ≠ 1 then 1 else 2
theorem turnOf_lt (a b : UInt8) : (turnOf a b).toNat < 3 := by
  unfold turnOf
  split
  · decide
  · split <;> decide
/-- The sector that is written over the old one. -/
def sealOver (old body : List UInt8) : List UInt8 := sealSec (turnOf (old.getD 0 0) (old.getD 511 0)) body
end Vl
