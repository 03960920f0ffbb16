/- What a quoted word is read as: the word. Plain Lean, no program in sight. -/
import Derived.Test.YtheflheeaiopfaaDoorQSpec
namespace Vl.W
set_option linter.unusedVariables false

theorem hexOf_sign : ∀ d : Fin 16, hexOf (hexSign d.val) = (d.val : Int) := by decide +kernel
theorem hexOf_sign' {d : Nat} (h : d < 16) : hexOf (hexSign d) = (d : Int) := hexOf_sign ⟨d, h⟩

theorem run_nil (s : RS) : run [] s = s := rfl

theorem next2_at {w : List UInt8} {ws : List (List UInt8)} {x : Int} (c : UInt8) : RS.next ⟨2, w, ws, x, false⟩ c = RS.inside ⟨2, w, ws, x, false⟩ c := rfl

theorem run_qByte (c : UInt8) (w : List UInt8) (ws : List (List UInt8)) (x : Int) : ∃ y, run (qByte c) ⟨2, w, ws, x, false⟩ = ⟨2, w ++ [c], ws, y, false⟩ := by
  unfold qByte
  split
  · rename_i h
    refine ⟨x, ?_⟩
    rw [run_cons _ _ rfl]
    show run [qSign c] ⟨3, w, ws, x, false⟩ = _
    rw [run_cons _ _ rfl, run_nil]
    unfold qSign at h ⊢
    by_cases h1 : c = 92
    · subst h1; rfl
    by_cases h2 : c = 34
    · subst h2; rfl
    by_cases h3 : c = 10
    · subst h3; rfl
    by_cases h4 : c = 9
    · subst h4; rfl
    rw [if_neg h1, if_neg h2, if_neg h3, if_neg h4] at h
    exact absurd rfl h
  · rename_i hq
    split
    · rename_i hp
      have hc : c.toNat < 256 := c.toNat_lt
      rw [run_cons _ _ rfl]
      show ∃ y, run [120, hexSign (c.toNat / 16), hexSign (c.toNat % 16)] ⟨3, w, ws, x, false⟩ = _
      rw [run_cons _ _ rfl]
      show ∃ y, run [hexSign (c.toNat / 16), hexSign (c.toNat % 16)] ⟨4, w, ws, x, false⟩ = _
      rw [run_cons _ _ rfl]
      have e1 : RS.next ⟨4, w, ws, x, false⟩ (hexSign (c.toNat / 16)) = ⟨5, w, ws, hexOf (hexSign (c.toNat / 16)), false || decide (hexOf (hexSign (c.toNat / 16)) < 0)⟩ := rfl
      rw [e1, hexOf_sign' (by omega), decide_eq_false (by omega)]
      rw [run_cons _ _ rfl, run_nil]
      have e2 : ∀ h, RS.next ⟨5, w, ws, h, false || false⟩ (hexSign (c.toNat % 16)) = if hexOf (hexSign (c.toNat % 16)) < 0 then ⟨2, w, ws, h, true⟩ else ⟨2, w ++ [byteOf (16 * h + hexOf (hexSign (c.toNat % 16)))], ws, h, false⟩ := fun h => rfl
      rw [e2, hexOf_sign' (by omega), if_neg (by omega)]
      have e3 : byteOf (16 * ((c.toNat / 16 : Nat) : Int) + ((c.toNat % 16 : Nat) : Int)) = c := by
        unfold byteOf
        have : ((16 * ((c.toNat / 16 : Nat) : Int) + ((c.toNat % 16 : Nat) : Int)) % 256).toNat = c.toNat := by omega
        rw [this]; simp
      rw [e3]
      exact ⟨_, rfl⟩
    · rename_i hp
      refine ⟨x, ?_⟩
      rw [run_cons _ _ rfl, run_nil, next2_at]
      have n34 : c ≠ 34 := by rintro rfl; exact hq (by decide)
      have n92 : c ≠ 92 := by rintro rfl; exact hq (by decide)
      have nl : low c = false := by
        unfold low
        have : c ≠ 127 := by rintro rfl; exact hp (.inr (by decide))
        simp only [Bool.or_eq_false_iff, decide_eq_false_iff_not, beq_eq_false_iff_ne]
        exact ⟨by omega, this⟩
      unfold RS.inside
      rw [if_neg (by simpa using n34), if_neg (by simpa using n92), nl]
      rfl

theorem run_qBody : ∀ (l w : List UInt8) (ws : List (List UInt8)) (x : Int), ∃ y, run (qBody l) ⟨2, w, ws, x, false⟩ = ⟨2, w ++ l, ws, y, false⟩
  | [], w, ws, x => ⟨x, by simp [qBody, run]⟩
  | c :: l, w, ws, x => by
    have : qBody (c :: l) = qByte c ++ qBody l := by simp [qBody]
    rw [this, run_append]
    obtain ⟨y, hy⟩ := run_qByte c w ws x
    obtain ⟨z, hz⟩ := run_qBody l (w ++ [c]) ws y
    exact ⟨z, by rw [hy, hz]; simp⟩

/-- A quoted word, from between two words on. -/
theorem run_quote (l : List UInt8) (ws : List (List UInt8)) (x : Int) : ∃ y, run (quote l) ⟨0, [], ws, x, false⟩ = ⟨6, [], ws ++ [l], y, false⟩ := by
  unfold quote
  rw [run_cons _ _ rfl]
  show ∃ y, run (qBody l ++ [34]) ⟨2, [], ws, x, false⟩ = _
  rw [run_append]
  obtain ⟨y, hy⟩ := run_qBody l [] ws x
  rw [hy, run_cons _ _ rfl, run_nil]
  exact ⟨y, by rw [next2_at]; rfl⟩

theorem words_quote (l : List UInt8) : wordsOf (quote l) = some [l] := by
  unfold wordsOf
  obtain ⟨y, hy⟩ := run_quote l [] 0
  rw [show init = ⟨0, [], [], 0, false⟩ from rfl, hy]
  rfl

/-- A blank ahead of a quoted word: between two words, or behind one. -/
theorem run_blank_quote (l : List UInt8) (k : Nat) (hk : k = 0 ∨ k = 6) (ws : List (List UInt8)) (x : Int) : ∃ y, run (32 :: quote l) ⟨k, [], ws, x, false⟩ = ⟨6, [], ws ++ [l], y, false⟩ := by
  rw [run_cons _ _ rfl]
  have : RS.next ⟨k, [], ws, x, false⟩ 32 = ⟨0, [], ws, x, false⟩ := by
    rcases hk with rfl | rfl <;> rfl
  rw [this]
  exact run_quote l ws x

def joinQ (ws : List (List UInt8)) : List UInt8 := ws.flatMap fun w => 32 :: quote w
theorem joinQ_snoc (ws : List (List UInt8)) (w : List UInt8) : joinQ (ws ++ [w]) = joinQ ws ++ ([32] ++ quote w) := by simp [joinQ]

theorem run_joinQ : ∀ (l ws : List (List UInt8)) (k : Nat) (x : Int), (k = 0 ∨ k = 6) → ∃ j y, (j = 0 ∨ j = 6) ∧ run (joinQ l) ⟨k, [], ws, x, false⟩ = ⟨j, [], ws ++ l, y, false⟩
  | [], ws, k, x, hk => ⟨k, x, hk, by simp [joinQ, run]⟩
  | w :: l, ws, k, x, hk => by
    have : joinQ (w :: l) = (32 :: quote w) ++ joinQ l := by simp [joinQ]
    rw [this, run_append]
    obtain ⟨y, hy⟩ := run_blank_quote w k hk ws x
    rw [hy]
    obtain ⟨j, z, hj, hz⟩ := run_joinQ l (ws ++ [w]) 6 y (.inr rfl)
    exact ⟨j, z, hj, by rw [hz]; simp⟩

theorem run_stay : ∀ (l : List UInt8) (ws : List (List UInt8)) (x : Int), run l ⟨7, [], ws, x, false⟩ = ⟨7, [], ws, x, false⟩
  | [], _, _ => rfl
  | c :: l, ws, x => by
    rw [run_cons _ _ rfl]
    exact run_stay l ws x

/-- Words quoted, blanks between, a comment behind: these words. -/
theorem words_join (l : List (List UInt8)) (c : List UInt8) : wordsOf (joinQ l ++ ([9, 35] ++ c)) = some l := by
  unfold wordsOf
  rw [run_append, show init = ⟨0, [], [], 0, false⟩ from rfl]
  obtain ⟨j, y, hj, hy⟩ := run_joinQ l [] 0 0 (.inl rfl)
  rw [hy, List.cons_append, run_cons _ _ rfl]
  have : RS.next ⟨j, [], [] ++ l, y, false⟩ 9 = ⟨0, [], l, y, false⟩ := by
    rcases hj with rfl | rfl <;> rfl
  rw [this, List.cons_append, List.nil_append, run_cons _ _ rfl]
  show told (run c ⟨7, [], l, y, false⟩) = _
  rw [run_stay]
  rfl
end Vl.W
