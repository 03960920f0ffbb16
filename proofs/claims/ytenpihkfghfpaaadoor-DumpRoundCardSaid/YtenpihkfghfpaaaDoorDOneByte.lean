/- One byte of an archive changed: it is none. Plain Lean. -/
import Derived.Test.YtenpihkfghfpaaaDoorDChange
namespace Vl
set_option linter.unusedVariables false

theorem crcBit_zero {z : Nat} (hz : z < 4294967296) (h : crcBit z = 0) : z = 0 := by
  unfold crcBit at h
  split at h
  · have h2 : z / 2 = crcP := by
      have := congrArg (· ^^^ crcP) h
      simpa [Nat.xor_assoc] using this
    unfold crcP at h2
    omega
  · omega
theorem crcBit_inj {a b : Nat} (ha : a < 4294967296) (hb : b < 4294967296) (h : crcBit a = crcBit b) : a = b := by
  have hx : crcBit (a ^^^ b) = 0 := by rw [crcBit_xor, h, Nat.xor_self]
  have := crcBit_zero (Nat.xor_lt_two_pow (n := 32) ha hb) hx
  have h2 := congrArg (· ^^^ b) this
  simpa [Nat.xor_assoc] using h2
theorem crcByte_inj {a b : Nat} (ha : a < 4294967296) (hb : b < 4294967296) (h : crcByte a = crcByte b) : a = b := by
  unfold crcByte at h
  have l := @crcBit_lt
  have h1 := crcBit_inj (l (l (l (l (l (l (l ha))))))) (l (l (l (l (l (l (l hb))))))) h
  have h2 := crcBit_inj (l (l (l (l (l (l ha)))))) (l (l (l (l (l (l hb)))))) h1
  have h3 := crcBit_inj (l (l (l (l (l ha))))) (l (l (l (l (l hb))))) h2
  have h4 := crcBit_inj (l (l (l (l ha)))) (l (l (l (l hb)))) h3
  have h5 := crcBit_inj (l (l (l ha))) (l (l (l hb))) h4
  have h6 := crcBit_inj (l (l ha)) (l (l hb)) h5
  have h7 := crcBit_inj (l ha) (l hb) h6
  exact crcBit_inj ha hb h7
theorem xor_c_lt {r : Nat} (h : r < 4294967296) (c : UInt8) : r ^^^ c.toNat < 4294967296 := Nat.xor_lt_two_pow (n := 32) h (by have := c.toNat_lt; omega)
theorem crcRun_inj {r s : Nat} (l : List UInt8) (hr : r < 4294967296) (hs : s < 4294967296) (h : crcRun r l = crcRun s l) : r = s := by
  induction l generalizing r s with
  | nil => exact h
  | cons c l ih =>
    rw [crcRun_cons, crcRun_cons] at h
    have h1 := ih (crcByte_lt (xor_c_lt hr c)) (crcByte_lt (xor_c_lt hs c)) h
    have h2 := crcByte_inj (xor_c_lt hr c) (xor_c_lt hs c) h1
    have h3 := congrArg (· ^^^ c.toNat) h2
    simpa [Nat.xor_assoc] using h3
theorem crc_one {A D : List UInt8} {c c' : UInt8} (h : crcOf (A ++ c :: D) = crcOf (A ++ c' :: D)) : c = c' := by
  unfold crcOf at h
  have h1 := congrArg (· ^^^ crcOnes) h
  simp only [Nat.xor_assoc, Nat.xor_self, Nat.xor_zero] at h1
  rw [crcRun_append, crcRun_append, crcRun_cons, crcRun_cons] at h1
  have hA : crcRun crcOnes A < 4294967296 := crcRun_lt (by decide) A
  have h2 := crcRun_inj D (crcByte_lt (xor_c_lt hA c)) (crcByte_lt (xor_c_lt hA c')) h1
  have h3 := crcByte_inj (xor_c_lt hA c) (xor_c_lt hA c') h2
  have h4 := congrArg (crcRun crcOnes A ^^^ ·) h3
  simp only [← Nat.xor_assoc, Nat.xor_self, Nat.zero_xor] at h4
  exact UInt8.toNat_inj.1 h4
theorem leB_inj {a b : Nat} (ha : a < 4294967296) (hb : b < 4294967296) (h : leB a 4 = leB b 4) : a = b := by
  have h1 := congrArg leV h
  rwa [leV_leB a 4 (by omega), leV_leB b 4 (by omega)] at h1

/-- Two archives' bytes that part in one place at most are the same. -/
theorem one_byte {A D P Q : List UInt8} {c c' : UInt8} (h1 : A ++ c :: D = P ++ leB (crcOf P) 4) (h2 : A ++ c' :: D = Q ++ leB (crcOf Q) 4) : A ++ c :: D = A ++ c' :: D := by
  have hl : P.length = Q.length := by
    have e1 := congrArg List.length h1
    have e2 := congrArg List.length h2
    simp only [List.length_append, List.length_cons, leB_length] at e1 e2
    omega
  have hP : P = (A ++ c :: D).take P.length := by rw [h1]; simp
  have hQ : Q = (A ++ c' :: D).take P.length := by rw [h2, hl]; simp
  have tP : leB (crcOf P) 4 = (A ++ c :: D).drop P.length := by rw [h1]; simp
  have tQ : leB (crcOf Q) 4 = (A ++ c' :: D).drop P.length := by rw [h2, hl]; simp
  by_cases hA : P.length ≤ A.length
  · have e : P = Q := by
      rw [List.take_append_of_le_length hA] at hP hQ
      rw [hQ]; exact hP
    rw [h1, h2, e]
  · obtain ⟨m, hm⟩ : ∃ m, P.length = A.length + (m + 1) := ⟨P.length - A.length - 1, by omega⟩
    have e : leB (crcOf P) 4 = leB (crcOf Q) 4 := by
      rw [tP, tQ, hm, List.drop_append, List.drop_append]
      simp
    have e2 := leB_inj (crcOf_lt P) (crcOf_lt Q) e
    rw [hm, List.take_append] at hP hQ
    rw [List.take_of_length_le (by omega), show A.length + (m + 1) - A.length = m + 1 by omega, List.take_succ_cons] at hP hQ
    rw [hP, hQ] at e2
    rw [crc_one e2]

/-- A change of one byte. -/
theorem chRaw_zero (v : Int) (p : Nat) (l : List UInt8) : ∀ j, chRaw 0 v p j l = l ∨ ∃ A c D, l = A ++ c :: D ∧ chRaw 0 v p j l = A ++ (c ^^^ byteI v) :: D := by
  have hs : ∀ i c, chStep 0 v p i c = if i = p then [c ^^^ byteI v] else [c] := fun i c => by
    unfold chStep
    simp
  have hfar : ∀ (l : List UInt8) j, p < j → chRaw 0 v p j l = l := by
    intro l
    induction l with
    | nil => intro j _; rfl
    | cons c l ih =>
      intro j hj
      rw [chRaw, hs, if_neg (by omega), ih (j + 1) (by omega)]
      rfl
  induction l with
  | nil => exact fun j => .inl rfl
  | cons c l ih =>
    intro j
    rw [chRaw, hs]
    by_cases hj : j = p
    · rw [if_pos hj, hfar l (j + 1) (by omega)]
      exact .inr ⟨[], c, l, rfl, rfl⟩
    · rw [if_neg hj]
      rcases ih (j + 1) with h | ⟨A, d, D, h1, h2⟩
      · exact .inl (by rw [h]; rfl)
      · exact .inr ⟨c :: A, d, D, by rw [h1]; rfl, by rw [h2]; rfl⟩
theorem chRaw_zero_len (v : Int) (p j : Nat) (l : List UInt8) : (chRaw 0 v p j l).length = l.length := by
  rcases chRaw_zero v p l j with h | ⟨A, c, D, h1, h2⟩
  · rw [h]
  · rw [h2, h1]; simp
theorem changed_zero_len (b : List UInt8) (a v : Int) (back sum : Bool) : (changedB b 0 a v back sum).length = b.length := by
  unfold changedB
  split
  · rename_i h; rw [h]
  · rw [chSum_len, chRaw_zero_len]
/-- P1506's last part. -/
theorem changed_refused {L M : List Itm} {b : List UInt8} (a v : Int) (back : Bool) (h : packSpec L = (b, 0)) (h2 : packSpec M = (changedB b 0 a v back false, 0)) : changedB b 0 a v back false = b := by
  obtain ⟨_, _, e1, _⟩ := packSpec_ok h
  obtain ⟨_, _, e2, _⟩ := packSpec_ok h2
  unfold changedB at *
  split at e2
  · rename_i h0; rw [if_pos h0, h0]
  · rename_i h0
    rw [if_neg h0]
    have hs : ∀ l, chSum false l = l := fun l => by unfold chSum; simp
    rw [hs] at e2 ⊢
    rcases chRaw_zero v (chAt b.length a back) b 0 with h3 | ⟨A, c, D, h3, h4⟩
    · exact h3
    · rw [h4] at e2 ⊢
      have e1' : A ++ c :: D = packBody L ++ leB (crcOf (packBody L)) 4 := by rw [← h3, e1]; rfl
      have e2' : A ++ (c ^^^ byteI v) :: D = packBody M ++ leB (crcOf (packBody M)) 4 := by rw [e2]; rfl
      have := one_byte e1' e2'
      rw [← this, ← h3]
end Vl
