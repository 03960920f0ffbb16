/- Paths of an archive: their parts, their keys, their order. Plain Lean; no program in sight. -/
namespace Vl
set_option linter.unusedVariables false

/-- Bytes in the order of strings. -/
def ltB : List UInt8 → List UInt8 → Bool
  | _, [] => false
  | [], _ :: _ => true
  | c :: l, d :: m => if c = d then ltB l m else decide (c < d)

theorem ltB_nil (l : List UInt8) : ltB l [] = false := by cases l <;> rfl
theorem ltB_irrefl (l : List UInt8) : ltB l l = false := by
  induction l with
  | nil => rfl
  | cons c l ih => simp [ltB, ih]
theorem ltB_append (p l m : List UInt8) : ltB (p ++ l) (p ++ m) = ltB l m := by
  induction p with
  | nil => rfl
  | cons c p ih => simp [ltB, ih]
theorem ltB_trans {a b c : List UInt8} (h : ltB a b = true) (k : ltB b c = true) : ltB a c = true := by
  induction a generalizing b c with
  | nil =>
    cases b with
    | nil => simp [ltB] at h
    | cons x b => cases c with
      | nil => simp [ltB] at k
      | cons y c => rfl
  | cons x a ih =>
    cases b with
    | nil => simp [ltB] at h
    | cons y b =>
      cases c with
      | nil => simp [ltB] at k
      | cons z c =>
        simp only [ltB] at *
        by_cases hxy : x = y
        · subst hxy
          by_cases hxz : x = z
          · subst hxz
            simp at *
            exact ih h k
          · simp [hxz] at *
            exact k
        · by_cases hyz : y = z
          · subst hyz
            simp [hxy] at *
            exact h
          · simp [hxy, hyz] at h k
            have hxz : x < z := by
              have h1 : x.toNat < y.toNat := h
              have h2 : y.toNat < z.toNat := k
              exact Nat.lt_trans h1 h2
            have : x ≠ z := by
              rintro rfl
              have : x.toNat < x.toNat := hxz
              omega
            simp [this]
            exact hxz
theorem ltB_total {a b : List UInt8} (h : ltB a b = false) (hne : a ≠ b) : ltB b a = true := by
  induction a generalizing b with
  | nil => cases b with
    | nil => exact absurd rfl hne
    | cons y b => simp [ltB] at h
  | cons x a ih =>
    cases b with
    | nil => rfl
    | cons y b =>
      simp only [ltB] at *
      by_cases hxy : x = y
      · subst hxy
        simp at *
        exact ih h hne
      · have hyx : ¬ y = x := fun e => hxy e.symm
        simp [hxy] at h
        simp [hyx]
        have h1 : y.toNat ≤ x.toNat := h
        show y.toNat < x.toNat
        have : y.toNat ≠ x.toNat := fun e => hyx (UInt8.toNat_inj.1 e)
        omega

/-- The parts of a text between its slashes. -/
def splitS : List UInt8 → List (List UInt8)
  | [] => [[]]
  | c :: l => if c = 47 then [] :: splitS l else match splitS l with
    | [] => [[c]]
    | p :: ps => (c :: p) :: ps
theorem splitS_ne (l : List UInt8) : splitS l ≠ [] := by
  cases l with
  | nil => simp [splitS]
  | cons c l =>
    simp only [splitS]
    split
    · simp
    · split <;> simp

/-- The path of these parts. -/
def joinP (ps : List (List UInt8)) : List UInt8 := ps.flatMap fun p => 47 :: p
theorem joinP_cons (p : List UInt8) (ps : List (List UInt8)) : joinP (p :: ps) = 47 :: (p ++ joinP ps) := by simp [joinP]
theorem joinP_split (l : List UInt8) : joinP (splitS l) = 47 :: l := by
  induction l with
  | nil => rfl
  | cons c l ih =>
    simp only [splitS]
    split
    · rename_i h
      subst h
      rw [joinP_cons, ih]; rfl
    · cases hs : splitS l with
      | nil => exact absurd hs (splitS_ne l)
      | cons p ps =>
        rw [hs, joinP_cons] at ih
        simp only [joinP_cons]
        have : p ++ joinP ps = l := by simpa using ih
        rw [List.cons_append, this]
theorem splitS_free (l : List UInt8) : ∀ p ∈ splitS l, (47 : UInt8) ∉ p := by
  induction l with
  | nil => simp [splitS]
  | cons c l ih =>
    simp only [splitS]
    split
    · intro p hp
      rcases List.mem_cons.1 hp with rfl | hp
      · simp
      · exact ih p hp
    · rename_i hc
      cases hs : splitS l with
      | nil => exact absurd hs (splitS_ne l)
      | cons q ps =>
        rw [hs] at ih
        intro p hp
        rcases List.mem_cons.1 hp with rfl | hp
        · simp only [List.mem_cons, not_or]
          exact ⟨fun e => hc e.symm, ih q (by simp)⟩
        · exact ih p (by simp [hp])
theorem splitS_append_slash (p l : List UInt8) (h : (47 : UInt8) ∉ p) : splitS (p ++ 47 :: l) = p :: splitS l := by
  induction p with
  | nil => simp [splitS]
  | cons c p ih =>
    simp only [List.mem_cons, not_or] at h
    have hc : ¬ c = 47 := fun e => h.1 e.symm
    simp only [List.cons_append, splitS, hc, if_false]
    rw [ih h.2]
theorem splitS_of_free (p : List UInt8) (h : (47 : UInt8) ∉ p) : splitS p = [p] := by
  induction p with
  | nil => rfl
  | cons c p ih =>
    simp only [List.mem_cons, not_or] at h
    have hc : ¬ c = 47 := fun e => h.1 e.symm
    simp only [splitS, hc, if_false]
    rw [ih h.2]

/-- A name of a directory. -/
def nameB (p : List UInt8) : Bool := decide (p.length ≤ 54) && !(p == []) && !(p == [46]) && !(p == [46, 46]) && !(p.contains 47) && !(p.contains 0)
/-- A path's parts, if it is written right. -/
def partsB (path : List UInt8) : Option (List (List UInt8)) :=
  match path with
  | [] => none
  | c :: l => if path.length ≤ 1023 ∧ c = 47 ∧ (splitS l).all nameB = true then some (splitS l) else none
theorem partsB_some {path : List UInt8} {ps : List (List UInt8)} (h : partsB path = some ps) : path.length ≤ 1023 ∧ path = joinP ps ∧ ps ≠ [] ∧ ∀ p ∈ ps, nameB p = true := by
  unfold partsB at h
  split at h
  · cases h
  · rename_i c l
    split at h
    · rename_i hc
      obtain ⟨h1, rfl, h3⟩ := hc
      cases h
      exact ⟨h1, (joinP_split l).symm, splitS_ne l, List.all_eq_true.1 h3⟩
    · cases h
theorem nameB_free {p : List UInt8} (h : nameB p = true) : (47 : UInt8) ∉ p ∧ (0 : UInt8) ∉ p ∧ p ≠ [] ∧ p.length ≤ 54 := by
  simp only [nameB, Bool.and_eq_true, decide_eq_true_eq, Bool.not_eq_true', List.contains_eq_mem, decide_eq_false_iff_not] at h
  obtain ⟨⟨⟨⟨⟨h1, h2⟩, h3⟩, h4⟩, h5⟩, h6⟩ := h
  exact ⟨h5, h6, by rintro rfl; simp at h2, h1⟩

/-- The path as it is compared. -/
def keyB (path : List UInt8) : List UInt8 := path.map fun c => if c = 47 then 0 else c
theorem keyB_free {p : List UInt8} (h : (47 : UInt8) ∉ p) : keyB p = p := by
  unfold keyB
  conv => rhs; rw [← List.map_id p]
  apply List.map_congr_left
  intro c hc
  have : ¬ c = 47 := fun e => h (e ▸ hc)
  simp [this]
theorem keyB_append (p l : List UInt8) : keyB (p ++ l) = keyB p ++ keyB l := by simp [keyB]
theorem keyB_join (p : List UInt8) (ps : List (List UInt8)) (h : (47 : UInt8) ∉ p) : keyB (joinP (p :: ps)) = 0 :: (p ++ keyB (joinP ps)) := by
  rw [joinP_cons]
  show (if (47 : UInt8) = 47 then (0 : UInt8) else 47) :: keyB (p ++ joinP ps) = _
  rw [if_pos rfl, keyB_append, keyB_free h]

/-- The order of lists of parts. -/
def aheadB : List (List UInt8) → List (List UInt8) → Bool
  | _, [] => false
  | [], _ :: _ => true
  | p :: ps, q :: qs => if p = q then aheadB ps qs else ltB p q

theorem key_head (ps : List (List UInt8)) (h : ∀ p ∈ ps, (47 : UInt8) ∉ p) : keyB (joinP ps) = [] ∧ ps = [] ∨ ∃ l, keyB (joinP ps) = 0 :: l := by
  cases ps with
  | nil => exact .inl ⟨rfl, rfl⟩
  | cons p ps => exact .inr ⟨_, keyB_join p ps (h p (by simp))⟩

theorem lt_parts (p q l m : List UInt8) (hne : p ≠ q) (hp : (0 : UInt8) ∉ p) (hq : (0 : UInt8) ∉ q) (hl : l = [] ∨ ∃ l', l = 0 :: l') (hm : m = [] ∨ ∃ m', m = 0 :: m') : ltB (p ++ l) (q ++ m) = ltB p q := by
  induction p generalizing q with
  | nil =>
    cases q with
    | nil => exact absurd rfl hne
    | cons d q =>
      simp only [List.mem_cons, not_or] at hq
      have hd : ¬ (0 : UInt8) = d := hq.1
      rcases hl with rfl | ⟨l', rfl⟩
      · rfl
      · simp only [List.nil_append, List.cons_append, ltB, hd, if_false]
        have : (0 : UInt8) < d := by
          show (0 : UInt8).toNat < d.toNat
          have : d.toNat ≠ 0 := fun e => hd (UInt8.toNat_inj.1 (by rw [e]; rfl))
          show 0 < d.toNat
          omega
        simp [this]
  | cons c p ih =>
    simp only [List.mem_cons, not_or] at hp
    cases q with
    | nil =>
      have hc : ¬ c = (0 : UInt8) := fun e => hp.1 e.symm
      rcases hm with rfl | ⟨m', rfl⟩
      · simp [ltB]
      · simp only [List.cons_append, List.nil_append, ltB, hc, if_false]
        have : ¬ c < (0 : UInt8) := by
          show ¬ c.toNat < (0 : UInt8).toNat
          simp
        simp [this]
    | cons d q =>
      simp only [List.mem_cons, not_or] at hq
      simp only [List.cons_append, ltB]
      by_cases hcd : c = d
      · subst hcd
        simp only [if_true]
        exact ih q (fun e => hne (by rw [e])) hp.2 hq.2
      · simp [hcd]

/-- THE ORDER OF PATHS IS THE ORDER OF THEIR KEYS. -/
theorem key_order {ps qs : List (List UInt8)} (hp : ∀ p ∈ ps, nameB p = true) (hq : ∀ q ∈ qs, nameB q = true) : ltB (keyB (joinP ps)) (keyB (joinP qs)) = aheadB ps qs := by
  induction ps generalizing qs with
  | nil =>
    cases qs with
    | nil => rfl
    | cons q qs => rw [keyB_join q qs (nameB_free (hq q (by simp))).1]; rfl
  | cons p ps ih =>
    have fp := nameB_free (hp p (by simp))
    cases qs with
    | nil => rw [keyB_join p ps fp.1]; rfl
    | cons q qs =>
      have fq := nameB_free (hq q (by simp))
      rw [keyB_join p ps fp.1, keyB_join q qs fq.1]
      simp only [ltB, if_true, aheadB]
      by_cases hpq : p = q
      · subst hpq
        simp only [if_true, ltB_append]
        exact ih (fun x hx => hp x (by simp [hx])) (fun x hx => hq x (by simp [hx]))
      · simp only [hpq, if_false]
        refine lt_parts p q _ _ hpq fp.2.1 fq.2.1 ?_ ?_
        · rcases key_head ps (fun x hx => (nameB_free (hp x (by simp [hx]))).1) with ⟨h, _⟩ | h
          · exact .inl h
          · exact .inr h
        · rcases key_head qs (fun x hx => (nameB_free (hq x (by simp [hx]))).1) with ⟨h, _⟩ | h
          · exact .inl h
          · exact .inr h

/-- A key and no zero byte tell the path. -/
theorem keyB_inj {a b : List UInt8} (ha : (0 : UInt8) ∉ a) (hb : (0 : UInt8) ∉ b) (h : keyB a = keyB b) : a = b := by
  induction a generalizing b with
  | nil => cases b with
    | nil => rfl
    | cons d b => simp [keyB] at h
  | cons c a ih =>
    cases b with
    | nil => simp [keyB] at h
    | cons d b =>
      simp only [List.mem_cons, not_or] at ha hb
      simp only [keyB, List.map_cons, List.cons.injEq] at h
      have hcd : c = d := by
        by_cases hc : c = 47 <;> by_cases hd : d = 47
        · rw [hc, hd]
        · simp [hc, hd] at h; exact absurd h.1 hb.1
        · simp [hc, hd] at h; exact absurd h.1.symm ha.1
        · simpa [hc, hd] using h.1
      rw [hcd, ih ha.2 hb.2 h.2]
end Vl
