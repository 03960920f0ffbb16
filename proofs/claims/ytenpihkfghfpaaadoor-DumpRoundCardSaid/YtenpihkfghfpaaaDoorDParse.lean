/- Archives taken to pieces, two ways; what was packed is found again. Plain Lean; no program in sight. -/
import Derived.Test.YtenpihkfghfpaaaDoorDItem
namespace Vl
set_option linter.unusedVariables false

/-- The next n bytes, and what is left. -/
def takeB (n : Nat) (l : List UInt8) : Option (List UInt8 × List UInt8) := if n ≤ l.length then some (l.take n, l.drop n) else none
def numB (n : Nat) (l : List UInt8) : Option (Nat × List UInt8) := (takeB n l).map fun x => (leV x.1, x.2)
theorem takeB_append (a l : List UInt8) : takeB a.length (a ++ l) = some (a, l) := by simp [takeB]
theorem takeB_append' {n : Nat} (a l : List UInt8) (h : n = a.length) : takeB n (a ++ l) = some (a, l) := by subst h; exact takeB_append a l
theorem numB_leB {v n : Nat} (l : List UInt8) (h : v < 256 ^ n) : numB n (leB v n ++ l) = some (v, l) := by
  unfold numB
  rw [takeB_append' _ _ (leB_length v n).symm]
  simp [leV_leB v n h]
theorem takeB_len {n : Nat} {l a m : List UInt8} (h : takeB n l = some (a, m)) : l.length = n + m.length ∧ a.length = n ∧ l = a ++ m := by
  unfold takeB at h
  split at h
  · cases h
    refine ⟨by rw [List.length_drop]; omega, by rw [List.length_take]; omega, (List.take_append_drop n l).symm⟩
  · cases h
theorem numB_len {n v : Nat} {l m : List UInt8} (h : numB n l = some (v, m)) : l.length = n + m.length ∧ v < 256 ^ n := by
  unfold numB at h
  cases ht : takeB n l with
  | none => rw [ht] at h; cases h
  | some x =>
    rw [ht] at h
    obtain ⟨a, b⟩ := x
    obtain ⟨h1, h2, h3⟩ := takeB_len ht
    simp only [Option.map_some, Option.some.injEq, Prod.mk.injEq] at h
    obtain ⟨rfl, rfl⟩ := h
    exact ⟨h1, by rw [← h2]; exact leV_lt a⟩

/-- An int of 64 bits. -/
def wrapB (v : Nat) : Int := if v < 9223372036854775808 then v else (v : Int) - 18446744073709551616

/-! The first way. -/
def runsD : Nat → Int → List (Int × Int) → List UInt8 → Option (Int × List (Int × Int) × List UInt8)
  | 0, all, rs, l => some (all, rs, l)
  | n + 1, all, rs, l => match numB 4 l with
    | none => none
    | some (f, l) => match numB 4 l with
      | none => none
      | some (t, l) => if t ≤ f ∨ 16522 < t then none else runsD n (all + ((t : Int) - f)) (rs ++ [((f : Int), (t : Int))]) l
def fileD (x : Itm) (l : List UInt8) : Option (Itm × List UInt8) :=
  match numB 8 l with
  | none => none
  | some (size, l) => match numB 4 l with
    | none => none
    | some (n, l) => match runsD n 0 [] l with
      | none => none
      | some (all, rs, l) => match takeB (all * 512).toNat l with
        | none => none
        | some (d, l) => some ({ x with size := wrapB size, runs := rs, data := d }, l)
def textD (x : Itm) (l : List UInt8) : Option (Itm × List UInt8) :=
  match numB 2 l with
  | none => none
  | some (n, l) => match takeB n l with
    | none => none
    | some (t, l) => some ({ x with target := t }, l)
def itemD (kind : Nat) (l : List UInt8) : Option (Itm × List UInt8) :=
  match numB 2 l with
  | none => none
  | some (n, l) => match takeB n l with
    | none => none
    | some (p, l) =>
      let x : Itm := { kind := kind, path := p, target := [], size := 0, runs := [], data := [] }
      if kind = 1 then fileD x l
      else if kind = 3 ∨ kind = 4 then textD x l
      else if kind = 2 then some (x, l) else none
def loopD : Nat → List Itm → List UInt8 → Option (List Itm × List UInt8)
  | 0, _, _ => none
  | F + 1, acc, l => match numB 1 l with
    | none => none
    | some (k, l) => if k = 0 then some (acc, l) else match itemD k l with
      | none => none
      | some (x, l) => loopD F (acc ++ [x]) l
def parseD (a : List UInt8) : Option (List Itm) :=
  match takeB 8 a with
  | none => none
  | some (m, l) => if m = magicB then match loopD (l.length + 1) [] l with
      | none => none
      | some (items, l) => match takeB 8 l with
        | none => none
        | some (_, l) => if l = [] then some items else none
    else none

/-! The second way. -/
def numR (n : Nat) (l : List UInt8) : Option (Nat × List UInt8) := match numB n l with
  | none => none
  | some (v, l') => if 18014398509481984 < v / 256 then none else some (v, l')
def runsR : Nat → Int → List (Int × Int) → List UInt8 → Option (Int × List (Int × Int) × List UInt8)
  | 0, all, rs, l => some (all, rs, l)
  | n + 1, all, rs, l => match numB 4 l with
    | none => none
    | some (f, l) => match numB 4 l with
      | none => none
      | some (t, l) => runsR n (if f < t then all + t - f else all) (rs ++ [((f : Int), (t : Int))]) l
def fileR (x : Itm) (l : List UInt8) : Option (Itm × List UInt8) :=
  match numR 8 l with
  | none => none
  | some (size, l) => match numB 4 l with
    | none => none
    | some (n, l) => match runsR n 0 [] l with
      | none => none
      | some (all, rs, l) => match takeB (512 * all).toNat l with
        | none => none
        | some (d, l) => some ({ x with size := size, runs := rs, data := d }, l)
def itemR (kind : Nat) (l : List UInt8) : Option (Itm × List UInt8) :=
  match numB 2 l with
  | none => none
  | some (n, l) => match takeB n l with
    | none => none
    | some (p, l) =>
      let x : Itm := { kind := kind, path := p, target := [], size := 0, runs := [], data := [] }
      if kind = 1 then fileR x l
      else if kind = 3 ∨ kind = 4 then textD x l
      else some (x, l)
def loopR : Nat → List Itm → List UInt8 → Option (List Itm)
  | 0, _, _ => none
  | F + 1, acc, l => match numB 1 l with
    | none => none
    | some (k, l) => if k < 1 ∨ 4 < k ∨ 4096 < acc.length then some acc else match itemR k l with
      | none => none
      | some (x, l) => loopR F (acc ++ [x]) l
def parseR (a : List UInt8) : Option (List Itm) :=
  match takeB 8 a with
  | none => none
  | some (_, l) => loopR (l.length + 1) [] l

/-- The rows that 'runsB' takes. -/
theorem runsB_facts {cap last count last' count' : Int} {rs : List (Int × Int)} (h : runsB cap last count rs = some (last', count')) (hl : -1 ≤ last) (hc : cap ≤ 16522) (hlc : last ≤ cap ∨ last = -1) :
    (∀ r ∈ rs, 0 ≤ r.1 ∧ r.1 < r.2 ∧ r.2 ≤ 16522) ∧ (rs.length : Int) ≤ last' - last ∧ count ≤ count' ∧ (last' ≤ cap ∨ last' = -1) ∧ count' ≤ count + (last' - last) := by
  induction rs generalizing last count with
  | nil =>
    simp only [runsB, Option.some.injEq, Prod.mk.injEq] at h
    obtain ⟨rfl, rfl⟩ := h
    refine ⟨by simp, by simp, by omega, hlc, by omega⟩
  | cons r rs ih =>
    obtain ⟨f, t⟩ := r
    simp only [runsB] at h
    split at h
    · cases h
    · rename_i hn
      have hn' : ¬ f ≤ last ∧ ¬ t ≤ f ∧ ¬ cap < t := by
        refine ⟨fun e => hn (.inl e), fun e => hn (.inr (.inl e)), fun e => hn (.inr (.inr e))⟩
      obtain ⟨h1, h2, h3, h4, h5⟩ := ih h (by omega) (.inl (by omega))
      refine ⟨fun r hr => ?_, by simp only [List.length_cons, Int.natCast_add, Int.natCast_one]; omega, by omega, h4, by omega⟩
      rcases List.mem_cons.1 hr with rfl | hr
      · exact ⟨by show 0 ≤ f; omega, by show f < t; omega, by show t ≤ 16522; omega⟩
      · exact h1 r hr

theorem packRuns_cons (f t : Int) (rs : List (Int × Int)) : packRuns ((f, t) :: rs) = leB f.toNat 4 ++ (leB t.toNat 4 ++ packRuns rs) := by simp [packRuns]

theorem runsD_pack (rs : List (Int × Int)) (all : Int) (acc : List (Int × Int)) (l : List UInt8) (h : ∀ r ∈ rs, 0 ≤ r.1 ∧ r.1 < r.2 ∧ r.2 ≤ 16522) :
    runsD rs.length all acc (packRuns rs ++ l) = some (all + (rs.map fun r => r.2 - r.1).sum, acc ++ rs, l) := by
  induction rs generalizing all acc with
  | nil => simp [runsD, packRuns]
  | cons r rs ih =>
    obtain ⟨f, t⟩ := r
    obtain ⟨h1, h2, h3⟩ := h (f, t) (by simp)
    simp only at h1 h2 h3
    rw [packRuns_cons, List.append_assoc, List.append_assoc]
    simp only [List.length_cons, runsD]
    rw [numB_leB _ (show f.toNat < 256 ^ 4 by omega)]
    simp only
    rw [numB_leB _ (show t.toNat < 256 ^ 4 by omega)]
    simp only
    rw [if_neg (by omega), ih _ _ (fun r hr => h r (by simp [hr]))]
    have e1 : ((f.toNat : Nat) : Int) = f := by omega
    have e2 : ((t.toNat : Nat) : Int) = t := by omega
    simp only [e1, e2, List.map_cons, List.sum_cons, Option.some.injEq, Prod.mk.injEq, List.append_assoc, List.cons_append, List.nil_append, and_true]
    omega
theorem runsR_pack (rs : List (Int × Int)) (all : Int) (acc : List (Int × Int)) (l : List UInt8) (h : ∀ r ∈ rs, 0 ≤ r.1 ∧ r.1 < r.2 ∧ r.2 ≤ 16522) :
    runsR rs.length all acc (packRuns rs ++ l) = some (all + (rs.map fun r => r.2 - r.1).sum, acc ++ rs, l) := by
  induction rs generalizing all acc with
  | nil => simp [runsR, packRuns]
  | cons r rs ih =>
    obtain ⟨f, t⟩ := r
    obtain ⟨h1, h2, h3⟩ := h (f, t) (by simp)
    simp only at h1 h2 h3
    rw [packRuns_cons, List.append_assoc, List.append_assoc]
    simp only [List.length_cons, runsR]
    rw [numB_leB _ (show f.toNat < 256 ^ 4 by omega)]
    simp only
    rw [numB_leB _ (show t.toNat < 256 ^ 4 by omega)]
    simp only
    rw [if_pos (by omega), ih _ _ (fun r hr => h r (by simp [hr]))]
    have e1 : ((f.toNat : Nat) : Int) = f := by omega
    have e2 : ((t.toNat : Nat) : Int) = t := by omega
    simp only [e1, e2, List.map_cons, List.sum_cons, Option.some.injEq, Prod.mk.injEq, List.append_assoc, List.cons_append, List.nil_append, and_true]
    omega
theorem runsB_count {cap last count last' count' : Int} {rs : List (Int × Int)} (h : runsB cap last count rs = some (last', count')) : count' = count + (rs.map fun r => r.2 - r.1).sum := by
  induction rs generalizing last count with
  | nil =>
    simp only [runsB, Option.some.injEq, Prod.mk.injEq] at h
    simp [h.2]
  | cons r rs ih =>
    obtain ⟨f, t⟩ := r
    simp only [runsB] at h
    split at h
    · cases h
    · rw [ih h]
      simp only [List.map_cons, List.sum_cons]
      omega

/-- What of a right item fits its fields. -/
structure FitItm (x : Itm) : Prop where
  kind : x.kind = 1 ∨ x.kind = 2 ∨ x.kind = 3 ∨ x.kind = 4
  path : x.path.length ≤ 1023
  target : x.target.length ≤ 1023
  file : x.kind = 1 → x.target = [] ∧ fileB x = true
  bare : x.kind ≠ 1 → x.size = 0 ∧ x.runs = [] ∧ x.data = []
  dir : x.kind = 2 → x.target = []

theorem fileB_facts {x : Itm} (h : fileB x = true) : 0 ≤ x.size ∧ x.size ≤ 8459264 ∧ (∀ r ∈ x.runs, 0 ≤ r.1 ∧ r.1 < r.2 ∧ r.2 ≤ 16522) ∧ x.runs.length ≤ 16523 ∧ 0 ≤ (x.runs.map fun r => r.2 - r.1).sum ∧ (x.runs.map fun r => r.2 - r.1).sum ≤ 16523 ∧ (x.data.length : Int) = 512 * (x.runs.map fun r => r.2 - r.1).sum := by
  unfold fileB at h
  simp only [Bool.and_eq_true, decide_eq_true_eq] at h
  obtain ⟨⟨h1, h2⟩, h3⟩ := h
  split at h3
  · cases h3
  · rename_i last count hr
    simp only [Bool.and_eq_true, decide_eq_true_eq] at h3
    obtain ⟨a1, a2, a3, a4, a5⟩ := runsB_facts hr (by omega) (by omega) (.inr rfl)
    have hc := runsB_count hr
    refine ⟨h1, h2, a1, by omega, by omega, by omega, by rw [h3.1]; omega⟩

theorem fit_of_right {prev : List Itm} {x : Itm} (h : rightAt prev x = true) (hp : ∀ y ∈ prev, y.path.length ≤ 1023) : FitItm x := by
  unfold rightAt at h
  split at h
  · cases h
  · rename_i ps hps
    obtain ⟨h1, _⟩ := partsB_some hps
    simp only [Bool.and_eq_true] at h
    obtain ⟨_, hk⟩ := h
    unfold kindB at hk
    split at hk
    · rename_i k1
      simp only [Bool.and_eq_true, List.isEmpty_iff] at hk
      exact ⟨.inl k1, h1, by rw [hk.1]; simp, fun _ => hk, fun e => absurd k1 e, fun e => hk.1⟩
    · rename_i k1
      simp only [Bool.and_eq_true, bareB, List.isEmpty_iff, decide_eq_true_eq] at hk
      obtain ⟨⟨⟨b1, b2⟩, b3⟩, hk⟩ := hk
      have hb : x.kind ≠ 1 → x.size = 0 ∧ x.runs = [] ∧ x.data = [] := fun _ => ⟨b1, b2, b3⟩
      split at hk
      · rename_i k2
        have ht : x.target = [] := by simpa using hk
        exact ⟨.inr (.inl k2), h1, by rw [ht]; simp, fun e => absurd e k1, hb, fun _ => ht⟩
      · rename_i k2
        split at hk
        · rename_i k3
          simp only [Bool.and_eq_true, decide_eq_true_eq] at hk
          exact ⟨.inr (.inr (.inl k3)), h1, by omega, fun e => absurd e k1, hb, fun e => absurd e k2⟩
        · split at hk
          · rename_i k4
            refine ⟨.inr (.inr (.inr k4)), h1, ?_, fun e => absurd e k1, hb, fun e => absurd e k2⟩
            simp only [decide_eq_true_eq] at hk
            unfold kindAt at hk
            cases hf : prev.find? (fun y => y.path == x.target) with
            | none => rw [hf] at hk; simp at hk
            | some y =>
              have hy := List.find?_some hf
              have hm := List.mem_of_find?_eq_some hf
              have : y.path = x.target := by simpa using hy
              rw [← this]
              exact hp y hm
          · cases hk

theorem fits_from {prev l : List Itm} (h : rightFrom prev l = true) (hp : ∀ y ∈ prev, y.path.length ≤ 1023) : ∀ x ∈ l, FitItm x := by
  induction l generalizing prev with
  | nil => simp
  | cons x l ih =>
    simp only [rightFrom, Bool.and_eq_true] at h
    have hx := fit_of_right h.1 hp
    intro y hy
    rcases List.mem_cons.1 hy with rfl | hy
    · exact hx
    · refine ih h.2 (fun z hz => ?_) y hy
      rcases List.mem_append.1 hz with hz | hz
      · exact hp z hz
      · rw [List.mem_singleton.1 hz]; exact hx.path

/-- The item's bytes behind its kind's. -/
def packTail (x : Itm) : List UInt8 :=
  leB x.path.length 2 ++ x.path ++ (if x.kind = 1 then leB x.size.toNat 8 ++ leB x.runs.length 4 ++ packRuns x.runs ++ x.data else []) ++ (if x.kind = 3 ∨ x.kind = 4 then leB x.target.length 2 ++ x.target else [])
theorem packItm_tail (x : Itm) : packItm x = UInt8.ofNat x.kind.toNat :: packTail x := rfl

theorem textD_pack' {y : Itm} {t : List UInt8} (h : t.length ≤ 1023) (l : List UInt8) : textD y (leB t.length 2 ++ (t ++ l)) = some ({ y with target := t }, l) := by
  unfold textD
  rw [numB_leB _ (by omega)]
  simp only
  rw [takeB_append]

theorem itemD_pack {x : Itm} (h : FitItm x) (l : List UInt8) : itemD x.kind.toNat (packTail x ++ l) = some (x, l) := by
  obtain ⟨kind, path, target, size, runs, data⟩ := x
  have hp : path.length ≤ 1023 := h.path
  have htl : target.length ≤ 1023 := h.target
  unfold itemD packTail
  simp only [List.append_assoc]
  rw [numB_leB _ (by omega)]
  simp only
  rw [takeB_append]
  simp only
  have hk := h.kind
  have hfile := h.file
  have hbare := h.bare
  have hdir := h.dir
  simp only at hk hfile hbare hdir
  rcases hk with k | k | k | k <;> subst k
  · obtain ⟨ht, hf⟩ := hfile rfl
    subst ht
    obtain ⟨f1, f2, f3, f4, f5, f6, f7⟩ := fileB_facts hf
    simp only at f1 f2 f3 f4 f5 f6 f7
    simp only [show (1 : Int).toNat = 1 from rfl, show ¬ ((1 : Int) = 3 ∨ (1 : Int) = 4) by decide, if_true, if_false, List.nil_append]
    unfold fileD
    simp only [List.append_assoc]
    rw [numB_leB _ (show size.toNat < 256 ^ 8 by omega)]
    simp only
    rw [numB_leB _ (show runs.length < 256 ^ 4 by omega)]
    simp only
    rw [runsD_pack _ _ _ _ f3]
    simp only [Int.zero_add, List.nil_append]
    rw [takeB_append' _ _ (by omega)]
    have hw : wrapB size.toNat = size := by unfold wrapB; rw [if_pos (by omega)]; omega
    simp only [hw]
    rfl
  · obtain ⟨b1, b2, b3⟩ := hbare (by decide)
    have ht := hdir rfl
    subst b1 b2 b3 ht
    simp only [show (2 : Int).toNat = 2 from rfl, show ¬ (2 : Nat) = 1 by decide, show ¬ ((2 : Nat) = 3 ∨ (2 : Nat) = 4) by decide, show ¬ (2 : Int) = 1 by decide, show ¬ ((2 : Int) = 3 ∨ (2 : Int) = 4) by decide, if_true, if_false, List.nil_append]
    rfl
  · obtain ⟨b1, b2, b3⟩ := hbare (by decide)
    subst b1 b2 b3
    simp only [show (3 : Int).toNat = 3 from rfl, show ¬ (3 : Nat) = 1 by decide, show ¬ (3 : Int) = 1 by decide, if_false, List.nil_append]
    exact textD_pack' htl l
  · obtain ⟨b1, b2, b3⟩ := hbare (by decide)
    subst b1 b2 b3
    simp only [show (4 : Int).toNat = 4 from rfl, show ¬ (4 : Nat) = 1 by decide, show ¬ (4 : Int) = 1 by decide, if_false, List.nil_append]
    exact textD_pack' htl l

theorem itemR_pack {x : Itm} (h : FitItm x) (l : List UInt8) : itemR x.kind.toNat (packTail x ++ l) = some (x, l) := by
  obtain ⟨kind, path, target, size, runs, data⟩ := x
  have hp : path.length ≤ 1023 := h.path
  have htl : target.length ≤ 1023 := h.target
  unfold itemR packTail
  simp only [List.append_assoc]
  rw [numB_leB _ (by omega)]
  simp only
  rw [takeB_append]
  simp only
  have hk := h.kind
  have hfile := h.file
  have hbare := h.bare
  have hdir := h.dir
  simp only at hk hfile hbare hdir
  rcases hk with k | k | k | k <;> subst k
  · obtain ⟨ht, hf⟩ := hfile rfl
    subst ht
    obtain ⟨f1, f2, f3, f4, f5, f6, f7⟩ := fileB_facts hf
    simp only at f1 f2 f3 f4 f5 f6 f7
    simp only [show (1 : Int).toNat = 1 from rfl, show ¬ ((1 : Int) = 3 ∨ (1 : Int) = 4) by decide, if_true, if_false, List.nil_append]
    unfold fileR
    simp only [List.append_assoc]
    unfold numR
    rw [numB_leB _ (show size.toNat < 256 ^ 8 by omega)]
    simp only
    rw [if_neg (by omega)]
    simp only
    rw [numB_leB _ (show runs.length < 256 ^ 4 by omega)]
    simp only
    rw [runsR_pack _ _ _ _ f3]
    simp only [Int.zero_add, List.nil_append]
    rw [takeB_append' _ _ (by omega)]
    have hw : ((size.toNat : Nat) : Int) = size := by omega
    simp only [hw]
    rfl
  · obtain ⟨b1, b2, b3⟩ := hbare (by decide)
    have ht := hdir rfl
    subst b1 b2 b3 ht
    simp only [show (2 : Int).toNat = 2 from rfl, show ¬ (2 : Nat) = 1 by decide, show ¬ ((2 : Nat) = 3 ∨ (2 : Nat) = 4) by decide, show ¬ (2 : Int) = 1 by decide, show ¬ ((2 : Int) = 3 ∨ (2 : Int) = 4) by decide, if_false, List.nil_append]
    rfl
  · obtain ⟨b1, b2, b3⟩ := hbare (by decide)
    subst b1 b2 b3
    simp only [show (3 : Int).toNat = 3 from rfl, show ¬ (3 : Nat) = 1 by decide, show ¬ (3 : Int) = 1 by decide, if_false, List.nil_append]
    exact textD_pack' htl l
  · obtain ⟨b1, b2, b3⟩ := hbare (by decide)
    subst b1 b2 b3
    simp only [show (4 : Int).toNat = 4 from rfl, show ¬ (4 : Nat) = 1 by decide, show ¬ (4 : Int) = 1 by decide, if_false, List.nil_append]
    exact textD_pack' htl l

theorem numB_one (c : UInt8) (l : List UInt8) : numB 1 (c :: l) = some (c.toNat, l) := by simp [numB, takeB, leV]

theorem loopD_pack {L : List Itm} (h : ∀ x ∈ L, FitItm x) (acc : List Itm) (l : List UInt8) : ∀ F, L.length < F → loopD F acc (L.flatMap packItm ++ 0 :: l) = some (acc ++ L, l) := by
  induction L generalizing acc with
  | nil =>
    intro F hF
    obtain ⟨F, rfl⟩ : ∃ G, F = G + 1 := ⟨F - 1, by simp at hF; omega⟩
    simp [loopD, numB_one]
  | cons x L ih =>
    intro F hF
    obtain ⟨F, rfl⟩ : ∃ G, F = G + 1 := ⟨F - 1, by simp at hF; omega⟩
    have hx := h x (by simp)
    have hk : (UInt8.ofNat x.kind.toNat).toNat = x.kind.toNat := by
      rw [UInt8.toNat_ofNat']
      have := hx.kind
      omega
    have hk0 : ¬ x.kind.toNat = 0 := by have := hx.kind; omega
    rw [List.flatMap_cons, packItm_tail, List.cons_append, List.cons_append]
    simp only [loopD, numB_one, hk, if_neg hk0]
    rw [List.append_assoc, itemD_pack hx]
    simp only
    rw [ih (fun y hy => h y (by simp [hy])) _ F (by simp at hF; omega)]
    simp
theorem loopR_pack {L : List Itm} (h : ∀ x ∈ L, FitItm x) (acc : List Itm) (l : List UInt8) (hl : acc.length + L.length ≤ 4097) : ∀ F, L.length < F → loopR F acc (L.flatMap packItm ++ 0 :: l) = some (acc ++ L) := by
  induction L generalizing acc with
  | nil =>
    intro F hF
    obtain ⟨F, rfl⟩ : ∃ G, F = G + 1 := ⟨F - 1, by simp at hF; omega⟩
    simp [loopR, numB_one]
  | cons x L ih =>
    intro F hF
    obtain ⟨F, rfl⟩ : ∃ G, F = G + 1 := ⟨F - 1, by simp at hF; omega⟩
    have hx := h x (by simp)
    have hk : (UInt8.ofNat x.kind.toNat).toNat = x.kind.toNat := by
      rw [UInt8.toNat_ofNat']
      have := hx.kind
      omega
    rw [List.flatMap_cons, packItm_tail, List.cons_append, List.cons_append]
    simp only [loopR, numB_one, hk]
    rw [if_neg (by have := hx.kind; simp at hl; omega), List.append_assoc, itemR_pack hx]
    simp only
    rw [ih (fun y hy => h y (by simp [hy])) _ (by simp at hl ⊢; omega) F (by simp at hF; omega)]
    simp

theorem pack_len_le (L : List Itm) : L.length ≤ (L.flatMap packItm).length := by
  induction L with
  | nil => simp
  | cons x L ih =>
    rw [List.flatMap_cons, List.length_append, packItm_tail]
    simp only [List.length_cons]
    omega

theorem packAll_shape (L : List Itm) : packAll L = magicB ++ (L.flatMap packItm ++ 0 :: (leB L.length 4 ++ leB (crcOf (packBody L)) 4)) := by
  simp [packAll, packBody]

theorem packSpec_ok {L : List Itm} {a : List UInt8} (h : packSpec L = (a, 0)) : L.length ≤ 4096 ∧ rightAll L = true ∧ a = packAll L ∧ a.length ≤ 4194304 := by
  unfold packSpec at h
  split at h
  · cases h
  · split at h
    · cases h
    · split at h
      · cases h
      · rename_i h1 h2 h3
        cases h
        exact ⟨by omega, by simpa using h2, rfl, by omega⟩

/-- WHAT WAS PACKED IS FOUND AGAIN, BOTH WAYS. -/
theorem parseD_pack {L : List Itm} {a : List UInt8} (h : packSpec L = (a, 0)) : parseD a = some L := by
  obtain ⟨h1, h2, rfl, h4⟩ := packSpec_ok h
  have hf := fits_from (prev := []) h2 (by simp)
  rw [packAll_shape]
  unfold parseD
  rw [takeB_append' (n := 8) magicB _ rfl]
  simp only [if_true]
  rw [loopD_pack hf _ _ _ (by simp only [List.length_append]; have := pack_len_le L; omega)]
  simp only [List.nil_append]
  rw [show leB L.length 4 ++ leB (crcOf (packBody L)) 4 = leB L.length 4 ++ leB (crcOf (packBody L)) 4 ++ [] by simp, takeB_append' _ _ (by simp [leB_length])]
  simp
theorem parseR_pack {L : List Itm} {a : List UInt8} (h : packSpec L = (a, 0)) : parseR a = some L := by
  obtain ⟨h1, h2, rfl, h4⟩ := packSpec_ok h
  have hf := fits_from (prev := []) h2 (by simp)
  rw [packAll_shape]
  unfold parseR
  rw [takeB_append' (n := 8) magicB _ rfl]
  simp only
  rw [loopR_pack hf _ _ (by simp; omega) _ (by simp only [List.length_append]; have := pack_len_le L; omega)]
  simp

/-- P1502, from what a way of parsing finds. -/
def listOf (found : Option (List Itm)) (a : List UInt8) : List Itm × Nat :=
  if 4194304 < a.length then ([], 7) else match found with
    | none => ([], 150)
    | some L => if packSpec L = (a, 0) then (L, 0) else ([], 150)
/-- BOTH WAYS ANSWER ALIKE. -/
theorem list_same (a : List UInt8) : listOf (parseD a) a = listOf (parseR a) a := by
  unfold listOf
  split
  · rfl
  · by_cases h : ∃ L, packSpec L = (a, 0)
    · obtain ⟨L, hL⟩ := h
      rw [parseD_pack hL, parseR_pack hL]
    · have no : ∀ f : Option (List Itm), (match f with | none => (([], 150) : List Itm × Nat) | some L => if packSpec L = (a, 0) then (L, 0) else ([], 150)) = ([], 150) := by
        intro f
        cases f with
        | none => rfl
        | some L => simp only; rw [if_neg (fun e => h ⟨L, e⟩)]
      rw [no, no]
end Vl
