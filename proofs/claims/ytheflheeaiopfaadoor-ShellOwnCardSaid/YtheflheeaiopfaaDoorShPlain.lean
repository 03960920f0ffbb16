/- The shell's reading of a line, sign by sign, is the reference's, byte by byte. Plain Lean, no program in sight. -/
import Derived.Test.YtheflheeaiopfaaDoorWSpec
namespace Vl.W
set_option linter.unusedVariables false

def blankR (r : Int) : Bool := r == 32 || r == 9
def barredR (r : Int) : Bool := decide (r < 32) || r == 127
def meantR (r : Int) : Int := if r = 92 then 92 else if r = 34 then 34 else if r = 110 then 10 else if r = 116 then 9 else 0
def digitR (r : Int) : Int :=
  if 48 ≤ r ∧ r ≤ 57 then r - 48 else if 97 ≤ r ∧ r ≤ 102 then r - 97 + 10 else if 65 ≤ r ∧ r ≤ 70 then r - 65 + 10 else -1

theorem digitR_range (r : Int) : -1 ≤ digitR r ∧ digitR r ≤ 15 := by
  unfold digitR; split
  · omega
  · split
    · omega
    · split <;> omega
theorem meantR_range (r : Int) : 0 ≤ meantR r ∧ meantR r ≤ 255 := by
  unfold meantR; (repeat' split) <;> omega

def RS.put (s : RS) (bs : List UInt8) : RS := { s with word := s.word ++ bs }

/-- One sign within quotes. -/
def inQ (s : RS) (r : Int) (bs : List UInt8) : Option RS :=
  if s.at_ = 2 then
    if r = 34 then some { s.ends with at_ := 6 }
    else if r = 92 then some { s with at_ := 3 }
    else if barredR r then none
    else some (s.put bs)
  else if s.at_ = 3 then
    if r = 120 then some { s with at_ := 4 }
    else if meantR r = 0 then none
    else some { s.push (byteOf (meantR r)) with at_ := 2 }
  else if digitR r < 0 then none
  else if s.at_ = 4 then some { s with hex := digitR r, at_ := 5 }
  else some { s.push (byteOf (16 * s.hex + digitR r)) with at_ := 2 }

/-- A sign of a bare word. -/
def inBare (s : RS) (r : Int) (bs : List UInt8) : Option RS :=
  if blankR r then some { s.ends with at_ := 0 }
  else if barredR r || r == 34 || r == 92 then none
  else some (s.put bs)

/-- One sign; a comment's begin is not among them. -/
def sign (s : RS) (r : Int) (bs : List UInt8) : Option RS :=
  if s.at_ = 0 then
    if r = 34 then some { s with at_ := 2 }
    else if blankR r then some s
    else inBare { s with at_ := 1 } r bs
  else if s.at_ = 1 then inBare s r bs
  else if s.at_ = 6 then (if blankR r then some { s with at_ := 0 } else none)
  else inQ s r bs

theorem u8n {c : UInt8} {k : Nat} (hk : k < 256) : (c = UInt8.ofNat k) ↔ c.toNat = k := by
  constructor
  · rintro rfl; simp; omega
  · intro h; rw [← h]; simp

theorem blank_b (c : UInt8) : blank c = blankR c.toNat := by
  unfold blank blankR
  rw [Bool.eq_iff_iff]
  have h1 := u8n (c := c) (k := 32) (by omega)
  have h2 := u8n (c := c) (k := 9) (by omega)
  simp only [Bool.or_eq_true, beq_iff_eq]
  rw [show (32 : UInt8) = UInt8.ofNat 32 from rfl, show (9 : UInt8) = UInt8.ofNat 9 from rfl, h1, h2]
  omega
theorem low_b (c : UInt8) : low c = barredR c.toNat := by
  unfold low barredR
  rw [Bool.eq_iff_iff]
  have h1 := u8n (c := c) (k := 127) (by omega)
  simp only [Bool.or_eq_true, beq_iff_eq, decide_eq_true_eq]
  rw [show (127 : UInt8) = UInt8.ofNat 127 from rfl, h1]
  omega
theorem hexOf_b (c : UInt8) : hexOf c = digitR c.toNat := by
  unfold hexOf digitR
  (repeat' split) <;> omega
theorem is_b (c : UInt8) (k : Nat) (hk : k < 256) : (c == UInt8.ofNat k) = decide ((c.toNat : Int) = k) := by
  rw [Bool.eq_iff_iff, beq_iff_eq, u8n hk]; simp; omega

theorem next_at (s : RS) (c : UInt8) : s.next c = if s.at_ = 0 then s.first c
  else if s.at_ = 1 then (if blank c then { s.ends with at_ := 0 } else s.plain c)
  else if s.at_ = 2 then s.inside c
  else if s.at_ = 3 then s.escaped c
  else if s.at_ = 4 then { s with hex := hexOf c, at_ := 5, bad := s.bad || decide (hexOf c < 0) }
  else if s.at_ = 5 then (if hexOf c < 0 then { s with bad := true, at_ := 2 } else { s.push (byteOf (16 * s.hex + hexOf c)) with at_ := 2 })
  else if s.at_ = 6 then { s with at_ := 0, bad := s.bad || !blank c }
  else s := rfl

def Agrees (o : Option RS) (t : RS) : Prop := match o with | none => t.bad = true | some s' => t = s'

theorem byteOf_nat (c : UInt8) : byteOf (c.toNat : Int) = c := by
  unfold byteOf
  have : c.toNat < 256 := c.toNat_lt
  have e : (((c.toNat : Int)) % 256).toNat = c.toNat := by omega
  rw [e]; simp

theorem bare_byte {s : RS} {c : UInt8} (hb : s.bad = false) : Agrees (inBare s c.toNat [c]) (if blank c then { s.ends with at_ := 0 } else s.plain c) := by
  have e1 := blank_b c
  have e2 := low_b c
  have e34 := is_b c 34 (by omega)
  have e92 := is_b c 92 (by omega)
  unfold inBare
  rw [e1]
  split
  · rfl
  · have hp : badPlain c = (barredR c.toNat || ((c.toNat : Int)) == 34 || ((c.toNat : Int)) == 92) := by
      unfold badPlain
      rw [e2, show (34 : UInt8) = UInt8.ofNat 34 from rfl, show (92 : UInt8) = UInt8.ofNat 92 from rfl, e34, e92]
      congr 1
    unfold RS.plain
    rw [hp, hb]
    split
    · rename_i h; show (false || _) = true; rw [h]; rfl
    · rename_i h
      rw [Bool.not_eq_true] at h
      show ({ s with bad := false || _, word := s.word ++ [c] } : RS) = s.put [c]
      rw [h]; unfold RS.put
      cases s; simp only at hb; subst hb; rfl

theorem sign_byte {s : RS} {c : UInt8} (hb : s.bad = false) (ha : s.at_ ≤ 6) (hcom : ¬ (s.at_ = 0 ∧ c.toNat = 35)) : Agrees (sign s c.toNat [c]) (s.next c) := by
  have e1 := blank_b c
  have e2 := low_b c
  have eh := hexOf_b c
  have e34 := is_b c 34 (by omega)
  have e35 := is_b c 35 (by omega)
  have e92 := is_b c 92 (by omega)
  have e110 := is_b c 110 (by omega)
  have e116 := is_b c 116 (by omega)
  have e120 := is_b c 120 (by omega)
  rw [next_at]
  unfold sign
  by_cases h0 : s.at_ = 0
  · rw [if_pos h0, if_pos h0]
    unfold RS.first
    have n35 : (c == 35) = false := by rw [show (35 : UInt8) = UInt8.ofNat 35 from rfl, e35]; simp; omega
    rw [n35, show (c == 34) = decide ((c.toNat : Int) = (34 : Nat)) from e34]
    by_cases hbl : blank c = true
    · have hn : ¬ ((c.toNat : Int) = 34) := by rw [e1] at hbl; unfold blankR at hbl; simp at hbl; omega
      rw [if_pos hbl, if_neg hn, ← e1, if_pos hbl]
      show ({ s with at_ := 0 } : RS) = s
      rw [← h0]
    · rw [if_neg hbl]
      by_cases hq : (c.toNat : Int) = 34
      · rw [if_pos hq]
        simp only [Bool.false_eq_true, if_false]
        rw [if_pos (by simpa using hq)]
        rfl
      · rw [if_neg hq, ← e1, if_neg hbl]
        simp only [Bool.false_eq_true, if_false]
        rw [if_neg (by simpa using hq)]
        have := bare_byte (s := { s with at_ := 1 }) (c := c) hb
        rw [if_neg hbl] at this
        exact this
  rw [if_neg h0, if_neg h0]
  by_cases h1 : s.at_ = 1
  · rw [if_pos h1, if_pos h1]; exact bare_byte hb
  rw [if_neg h1, if_neg h1]
  by_cases h6 : s.at_ = 6
  · rw [if_pos h6, if_neg (show ¬ s.at_ = 2 by omega), if_neg (show ¬ s.at_ = 3 by omega), if_neg (show ¬ s.at_ = 4 by omega), if_neg (show ¬ s.at_ = 5 by omega), if_pos h6, e1]
    cases hbl : blankR (c.toNat : Int) with
    | true =>
      rw [if_pos rfl]
      show ({ s with at_ := 0, bad := s.bad || false } : RS) = { s with at_ := 0 }
      rw [Bool.or_false]
    | false =>
      rw [if_neg Bool.false_ne_true]
      show (s.bad || true) = true
      rw [Bool.or_true]
  rw [if_neg h6]
  unfold inQ
  by_cases h2 : s.at_ = 2
  · rw [if_pos h2, if_pos h2]
    unfold RS.inside
    rw [show (c == 34) = decide ((c.toNat : Int) = (34 : Nat)) from e34, show (c == 92) = decide ((c.toNat : Int) = (92 : Nat)) from e92, e2]
    by_cases hq : (c.toNat : Int) = 34
    · rw [if_pos hq, if_pos (show decide ((c.toNat : Int) = (34 : Nat)) = true by simpa using hq)]; rfl
    rw [if_neg hq, if_neg (show ¬ decide ((c.toNat : Int) = (34 : Nat)) = true by simpa using hq)]
    by_cases hs : (c.toNat : Int) = 92
    · rw [if_pos hs, if_pos (show decide ((c.toNat : Int) = (92 : Nat)) = true by simpa using hs)]; rfl
    rw [if_neg hs, if_neg (show ¬ decide ((c.toNat : Int) = (92 : Nat)) = true by simpa using hs)]
    split <;> rfl
  rw [if_neg h2, if_neg h2]
  by_cases h3 : s.at_ = 3
  · rw [if_pos h3, if_pos h3]
    unfold RS.escaped
    rw [show (c == 34) = decide ((c.toNat : Int) = (34 : Nat)) from e34, show (c == 92) = decide ((c.toNat : Int) = (92 : Nat)) from e92, show (c == 110) = decide ((c.toNat : Int) = (110 : Nat)) from e110,
      show (c == 116) = decide ((c.toNat : Int) = (116 : Nat)) from e116, show (c == 120) = decide ((c.toNat : Int) = (120 : Nat)) from e120]
    unfold meantR
    by_cases q1 : (c.toNat : Int) = 92
    · have : c = 92 := by rw [show (92 : UInt8) = UInt8.ofNat 92 from rfl, u8n (by omega)]; omega
      subst this
      rfl
    by_cases q2 : (c.toNat : Int) = 34
    · have : c = 34 := by rw [show (34 : UInt8) = UInt8.ofNat 34 from rfl, u8n (by omega)]; omega
      subst this
      rfl
    by_cases q3 : (c.toNat : Int) = 110
    · have : c = 110 := by rw [show (110 : UInt8) = UInt8.ofNat 110 from rfl, u8n (by omega)]; omega
      subst this
      rfl
    by_cases q4 : (c.toNat : Int) = 116
    · have : c = 116 := by rw [show (116 : UInt8) = UInt8.ofNat 116 from rfl, u8n (by omega)]; omega
      subst this
      rfl
    by_cases q5 : (c.toNat : Int) = 120
    · have : c = 120 := by rw [show (120 : UInt8) = UInt8.ofNat 120 from rfl, u8n (by omega)]; omega
      subst this
      rfl
    rw [if_neg q5, if_neg q1, if_neg q2, if_neg q3, if_neg q4, if_pos rfl, if_neg (by simp; omega), if_neg (by simp; omega), if_neg (by simp; omega), if_neg (by simp; omega)]
    rfl
  rw [if_neg h3, if_neg h3]
  by_cases h4 : s.at_ = 4
  · rw [if_pos h4, eh, hb]
    split
    · rename_i h; show (false || _) = true; simp [h]
    · rename_i h
      show ({ s with hex := digitR c.toNat, at_ := 5, bad := false || _ } : RS) = { s with hex := digitR c.toNat, at_ := 5, bad := false }
      rw [decide_eq_false h]
      rfl
  have h5 : s.at_ = 5 := by omega
  simp only [if_neg h4, if_pos h5, eh]
  split
  · rfl
  · rfl

theorem high_not {r : Int} (hr : 128 ≤ r) : blankR r = false ∧ barredR r = false ∧ meantR r = 0 ∧ digitR r = -1 := by
  refine ⟨?_, ?_, ?_, ?_⟩
  · unfold blankR; simp; omega
  · unfold barredR; simp; omega
  · unfold meantR; rw [if_neg (by omega), if_neg (by omega), if_neg (by omega), if_neg (by omega)]
  · unfold digitR; rw [if_neg (by omega), if_neg (by omega), if_neg (by omega)]

theorem put_put (s : RS) (a b : List UInt8) : (s.put a).put b = s.put (a ++ b) := by unfold RS.put; simp

theorem run_high_bare : ∀ (bs : List UInt8) (s : RS), (∀ x ∈ bs, 128 ≤ x.toNat) → s.at_ = 1 → s.bad = false → run bs s = s.put bs
  | [], s, _, _, _ => by unfold RS.put; simp [run]
  | x :: bs, s, h, h1, hb => by
    have hx := h x (List.mem_cons_self ..)
    obtain ⟨n1, n2, _, _⟩ := high_not (r := x.toNat) (by omega)
    have hg : s.next x = s.put [x] := by
      have := sign_byte (s := s) (c := x) hb (by omega) (by omega)
      unfold sign inBare at this
      rw [if_neg (by omega), if_pos h1, n1, n2] at this
      have e34 : (((x.toNat : Int)) == 34) = false := by simp; omega
      have e92 : (((x.toNat : Int)) == 92) = false := by simp; omega
      rw [e34, e92] at this
      exact this
    unfold run
    rw [hb, hg]
    simp only [Bool.false_eq_true, if_false]
    rw [run_high_bare bs (s.put [x]) (fun y hy => h y (List.mem_cons_of_mem _ hy)) h1 hb, put_put]
    rfl

theorem run_high_quoted : ∀ (bs : List UInt8) (s : RS), (∀ x ∈ bs, 128 ≤ x.toNat) → s.at_ = 2 → s.bad = false → run bs s = s.put bs
  | [], s, _, _, _ => by unfold RS.put; simp [run]
  | x :: bs, s, h, h1, hb => by
    have hx := h x (List.mem_cons_self ..)
    obtain ⟨n1, n2, _, _⟩ := high_not (r := x.toNat) (by omega)
    have hg : s.next x = s.put [x] := by
      have := sign_byte (s := s) (c := x) hb (by omega) (by omega)
      unfold sign inQ at this
      rw [if_neg (by omega), if_neg (by omega), if_neg (by omega), if_pos h1, if_neg (by omega), if_neg (by omega), n2] at this
      exact this
    unfold run
    rw [hb, hg]
    simp only [Bool.false_eq_true, if_false]
    rw [run_high_quoted bs (s.put [x]) (fun y hy => h y (List.mem_cons_of_mem _ hy)) h1 hb, put_put]
    rfl

theorem sign_high {s : RS} {bs : List UInt8} {r : Int} (hne : bs ≠ []) (h : ∀ x ∈ bs, 128 ≤ x.toNat) (hr : 128 ≤ r) (hb : s.bad = false) (ha : s.at_ ≤ 6) : Agrees (sign s r bs) (run bs s) := by
  obtain ⟨n1, n2, n3, n4⟩ := high_not hr
  obtain ⟨x, l, rfl⟩ : ∃ x l, bs = x :: l := by cases bs with | nil => exact absurd rfl hne | cons x l => exact ⟨x, l, rfl⟩
  have hx := h x (List.mem_cons_self ..)
  have hl : ∀ y ∈ l, 128 ≤ y.toNat := fun y hy => h y (List.mem_cons_of_mem _ hy)
  obtain ⟨m1, m2, m3, m4⟩ := high_not (r := x.toNat) (by omega)
  have e34 : (r == 34) = false := by simp; omega
  have e92 : (r == 92) = false := by simp; omega
  have hsb := sign_byte (s := s) (c := x) hb ha (by omega)
  have hrun : run (x :: l) s = run l (s.next x) := by show (if s.bad then s else run l (s.next x)) = _; rw [hb]; rfl
  rw [hrun]
  unfold sign at hsb ⊢
  by_cases h0 : s.at_ = 0
  · have hg : s.next x = ({ s with at_ := 1 } : RS).put [x] := by
      unfold inBare at hsb
      have x34 : (((x.toNat : Int)) == 34) = false := by simp; omega
      have x92 : (((x.toNat : Int)) == 92) = false := by simp; omega
      rw [if_pos h0, if_neg (by omega), m1, m2, x34, x92] at hsb
      exact hsb
    rw [if_pos h0, if_neg (by omega), n1]
    unfold inBare
    rw [n1, n2, e34, e92, hg, run_high_bare l (({ s with at_ := 1 } : RS).put [x]) hl rfl hb, put_put]
    rfl
  rw [if_neg h0] at hsb ⊢
  by_cases h1 : s.at_ = 1
  · rw [← hrun, if_pos h1]
    clear hsb hrun
    unfold inBare
    rw [n1, n2, e34, e92, run_high_bare _ _ h h1 hb]
    rfl
  rw [if_neg h1] at hsb ⊢
  by_cases h6 : s.at_ = 6
  · rw [if_pos h6, m1] at hsb
    rw [if_pos h6, n1, run_bad l hsb]
    exact hsb
  rw [if_neg h6] at hsb ⊢
  unfold inQ at hsb ⊢
  by_cases h2 : s.at_ = 2
  · rw [← hrun, if_pos h2, if_neg (by omega), if_neg (by omega), n2, run_high_quoted _ _ h h2 hb]
    rfl
  rw [if_neg h2] at hsb ⊢
  by_cases h3 : s.at_ = 3
  · rw [if_pos h3, if_neg (by omega), m3, if_pos rfl] at hsb
    rw [if_pos h3, if_neg (by omega), n3, if_pos rfl, run_bad l hsb]
    exact hsb
  rw [if_neg h3, m4, if_pos (by omega)] at hsb
  rw [if_neg h3, n4, if_pos (by omega), run_bad l hsb]
  exact hsb
end Vl.W
