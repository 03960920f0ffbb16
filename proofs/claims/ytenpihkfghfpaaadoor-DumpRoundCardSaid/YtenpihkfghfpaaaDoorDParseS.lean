/- The reference's parser as it runs: it goes on, where it has failed. Plain Lean. -/
import Derived.Test.YtenpihkfghfpaaaDoorDParse
namespace Vl
set_option linter.unusedVariables false

def numS (n : Nat) (l : List UInt8) (ok : Bool) : Nat × List UInt8 × Bool := match numR n l with
  | some (v, m) => (v, m, ok)
  | none => (0, l, false)
def takeS (n : Nat) (l : List UInt8) (ok : Bool) : List UInt8 × List UInt8 × Bool := match takeB n l with
  | some (a, m) => (a, m, ok)
  | none => ([], l, false)
def runsS : Nat → Int → List (Int × Int) → List UInt8 → Bool → Int × List (Int × Int) × List UInt8 × Bool
  | 0, all, rs, l, ok => (all, rs, l, ok)
  | n + 1, all, rs, l, ok => if ok = true then
      runsS n (if (numS 4 l ok).1 < (numS 4 (numS 4 l ok).2.1 (numS 4 l ok).2.2).1 then all + (numS 4 (numS 4 l ok).2.1 (numS 4 l ok).2.2).1 - (numS 4 l ok).1 else all)
        (rs ++ [(((numS 4 l ok).1 : Int), ((numS 4 (numS 4 l ok).2.1 (numS 4 l ok).2.2).1 : Int))]) (numS 4 (numS 4 l ok).2.1 (numS 4 l ok).2.2).2.1 (numS 4 (numS 4 l ok).2.1 (numS 4 l ok).2.2).2.2
    else (all, rs, l, ok)
def dataS (x : Itm) (r : Int × List (Int × Int) × List UInt8 × Bool) : Itm × List UInt8 × Bool :=
  if r.2.2.2 = true then ({ x with runs := r.2.1, data := (takeS (512 * r.1).toNat r.2.2.1 r.2.2.2).1 }, (takeS (512 * r.1).toNat r.2.2.1 r.2.2.2).2)
  else ({ x with runs := r.2.1 }, r.2.2)
def fileS (x : Itm) (l : List UInt8) (ok : Bool) : Itm × List UInt8 × Bool :=
  let s := numS 8 l ok
  let n := numS 4 s.2.1 s.2.2
  dataS { x with size := s.1 } (runsS n.1 0 [] n.2.1 n.2.2)
def textS (x : Itm) (l : List UInt8) (ok : Bool) : Itm × List UInt8 × Bool :=
  let n := numS 2 l ok
  let t := takeS n.1 n.2.1 n.2.2
  ({ x with target := t.1 }, t.2)
def itemS (kind : Nat) (l : List UInt8) (ok : Bool) : Itm × List UInt8 × Bool :=
  let n := numS 2 l ok
  let p := takeS n.1 n.2.1 n.2.2
  let x : Itm := { kind := kind, path := p.1, target := [], size := 0, runs := [], data := [] }
  if kind = 1 then fileS x p.2.1 p.2.2 else if kind = 3 ∨ kind = 4 then textS x p.2.1 p.2.2 else (x, p.2)
def loopS : Nat → List Itm → List UInt8 → Bool → List Itm × Bool
  | 0, acc, l, ok => (acc, false)
  | F + 1, acc, l, ok => if ok = true then
      if (numS 1 l ok).1 < 1 ∨ 4 < (numS 1 l ok).1 ∨ 4096 < acc.length then (acc, (numS 1 l ok).2.2)
      else loopS F (acc ++ [(itemS (numS 1 l ok).1 (numS 1 l ok).2.1 (numS 1 l ok).2.2).1]) (itemS (numS 1 l ok).1 (numS 1 l ok).2.1 (numS 1 l ok).2.2).2.1 (itemS (numS 1 l ok).1 (numS 1 l ok).2.1 (numS 1 l ok).2.2).2.2
    else (acc, ok)
def parseS (a : List UInt8) : List Itm × Bool := loopS ((takeS 8 a true).2.1.length + 1) [] (takeS 8 a true).2.1 (takeS 8 a true).2.2

theorem numS_false (n : Nat) (l : List UInt8) : (numS n l false).2.2 = false := by unfold numS; split <;> rfl
theorem takeS_false (n : Nat) (l : List UInt8) : (takeS n l false).2.2 = false := by unfold takeS; split <;> rfl
theorem runsS_false (n : Nat) (all : Int) (rs : List (Int × Int)) (l : List UInt8) : runsS n all rs l false = (all, rs, l, false) := by
  cases n <;> simp [runsS]
theorem dataS_false (x : Itm) (all : Int) (rs : List (Int × Int)) (l : List UInt8) : (dataS x (all, rs, l, false)).2.2 = false := by simp [dataS]
theorem numS_some {n : Nat} {l : List UInt8} {ok : Bool} {x : Nat × List UInt8} (h : numR n l = some x) : numS n l ok = (x.1, x.2, ok) := by unfold numS; rw [h]
theorem numS_none {n : Nat} {l : List UInt8} {ok : Bool} (h : numR n l = none) : numS n l ok = (0, l, false) := by unfold numS; rw [h]
theorem takeS_some {n : Nat} {l : List UInt8} {ok : Bool} {x : List UInt8 × List UInt8} (h : takeB n l = some x) : takeS n l ok = (x.1, x.2, ok) := by unfold takeS; rw [h]
theorem takeS_none {n : Nat} {l : List UInt8} {ok : Bool} (h : takeB n l = none) : takeS n l ok = ([], l, false) := by unfold takeS; rw [h]
theorem numR_small {n : Nat} (hn : n ≤ 7) (l : List UInt8) : numR n l = numB n l := by
  unfold numR
  cases h : numB n l with
  | none => rfl
  | some x =>
    obtain ⟨v, m⟩ := x
    have h1 := (numB_len h).2
    have h2 : 256 ^ n ≤ 256 ^ 7 := Nat.pow_le_pow_right (by decide) hn
    simp only
    rw [if_neg (by omega)]
theorem numR_lt {n : Nat} {l : List UInt8} {x : Nat × List UInt8} (h : numR n l = some x) : x.1 < 4611686018427388160 := by
  unfold numR at h
  split at h
  · cases h
  · split at h
    · cases h
    · cases h; simp only; omega
theorem numR_len {n : Nat} {l : List UInt8} {x : Nat × List UInt8} (h : numR n l = some x) : l.length = n + x.2.length ∧ x.1 < 256 ^ n := by
  unfold numR at h
  split at h
  · cases h
  · rename_i v m h1
    split at h
    · cases h
    · cases h; exact numB_len h1

/-- What runs and what is told, side by side. -/
def Told {α : Type} (s : α × List UInt8 × Bool) (r : Option (α × List UInt8)) : Prop := match r with
  | some (x, m) => s = (x, m, true)
  | none => s.2.2 = false
theorem runs_told (n : Nat) (all : Int) (rs : List (Int × Int)) (l : List UInt8) : match runsR n all rs l with
    | some (a, r, m) => runsS n all rs l true = (a, r, m, true)
    | none => (runsS n all rs l true).2.2.2 = false := by
  induction n generalizing all rs l with
  | zero => simp [runsR, runsS]
  | succ n ih =>
    simp only [runsR, runsS, if_true]
    rw [← numR_small (n := 4) (by omega)]
    cases h1 : numR 4 l with
    | none =>
      simp only [numS_none h1]
      have hf := numS_false 4 l
      generalize numS 4 l false = x at *
      obtain ⟨x1, x2, x3⟩ := x
      simp only at hf
      subst hf
      simp [runsS_false]
    | some x1 =>
      obtain ⟨f, l1⟩ := x1
      simp only [numS_some h1]
      rw [← numR_small (n := 4) (by omega)]
      cases h2 : numR 4 l1 with
      | none => simp [numS_none h2, runsS_false]
      | some x2 =>
        obtain ⟨t, l2⟩ := x2
        simp only [numS_some h2]
        exact ih _ _ _
theorem text_told (x : Itm) (l : List UInt8) : Told (textS x l true) (textD x l) := by
  unfold textS textD
  rw [← numR_small (n := 2) (by omega)]
  cases h1 : numR 2 l with
  | none => simp [numS_none h1, Told, takeS_false]
  | some x1 =>
    simp only [numS_some h1]
    cases h2 : takeB x1.1 x1.2 with
    | none => simp [takeS_none h2, Told]
    | some x2 => simp [takeS_some h2, Told]
theorem text_false (x : Itm) (l : List UInt8) : (textS x l false).2.2 = false := by
  unfold textS
  have h := numS_false 2 l
  generalize numS 2 l false = s at *
  obtain ⟨s1, s2, s3⟩ := s
  simp only at h
  subst h
  exact takeS_false _ _
theorem file_false (x : Itm) (l : List UInt8) : (fileS x l false).2.2 = false := by
  unfold fileS
  have h := numS_false 8 l
  generalize numS 8 l false = s at *
  obtain ⟨s1, s2, s3⟩ := s
  simp only at h
  subst h
  have h := numS_false 4 s2
  simp only
  generalize numS 4 s2 false = s at *
  obtain ⟨t1, t2, t3⟩ := s
  simp only at h
  subst h
  simp only [runsS_false, dataS_false]
theorem file_told (x : Itm) (l : List UInt8) : Told (fileS x l true) (fileR x l) := by
  unfold fileS fileR
  cases h1 : numR 8 l with
  | none =>
    simp only [numS_none h1, Told]
    have h := numS_false 4 l
    generalize numS 4 l false = s at *
    obtain ⟨s1, s2, s3⟩ := s
    simp only at h
    subst h
    simp only [runsS_false, dataS_false]
  | some x1 =>
    obtain ⟨size, l1⟩ := x1
    simp only [numS_some h1]
    rw [← numR_small (n := 4) (by omega)]
    cases h2 : numR 4 l1 with
    | none => simp only [numS_none h2, runsS_false, dataS_false, Told]
    | some x2 =>
      obtain ⟨n, l2⟩ := x2
      simp only [numS_some h2]
      have h3 := runs_told n 0 [] l2
      cases hr : runsR n 0 [] l2 with
      | none =>
        rw [hr] at h3
        simp only at h3
        generalize runsS n 0 [] l2 true = r at *
        obtain ⟨r1, r2, r3, r4⟩ := r
        simp only at h3
        subst h3
        simp only [dataS_false, Told]
      | some y =>
        obtain ⟨all, rs, l3⟩ := y
        rw [hr] at h3
        simp only at h3
        rw [h3]
        simp only [dataS, if_true]
        cases h4 : takeB (512 * all).toNat l3 with
        | none => simp [takeS_none h4, Told]
        | some z => simp [takeS_some h4, Told]
theorem item_told (k : Nat) (l : List UInt8) : Told (itemS k l true) (itemR k l) := by
  unfold itemS itemR
  rw [← numR_small (n := 2) (by omega)]
  cases h1 : numR 2 l with
  | none =>
    simp only [numS_none h1, Told]
    have h := takeS_false 0 l
    generalize takeS 0 l false = s at *
    obtain ⟨s1, s2, s3⟩ := s
    simp only at h
    subst h
    simp only
    split
    · exact file_false _ _
    · split
      · exact text_false _ _
      · rfl
  | some x1 =>
    obtain ⟨n, l1⟩ := x1
    simp only [numS_some h1]
    cases h2 : takeB n l1 with
    | none =>
      simp only [takeS_none h2, Told]
      split
      · exact file_false _ _
      · split
        · exact text_false _ _
        · rfl
    | some x2 =>
      obtain ⟨p, l2⟩ := x2
      simp only [takeS_some h2]
      split
      · exact file_told _ _
      · split
        · exact text_told _ _
        · rfl
theorem loopS_false (F : Nat) (acc : List Itm) (l : List UInt8) : (loopS F acc l false).2 = false := by
  cases F <;> simp [loopS]
theorem loop_told (F : Nat) (acc : List Itm) (l : List UInt8) : match loopR F acc l with
    | some L => loopS F acc l true = (L, true)
    | none => (loopS F acc l true).2 = false := by
  induction F generalizing acc l with
  | zero => simp [loopR, loopS]
  | succ F ih =>
    simp only [loopR, loopS, if_true]
    rw [← numR_small (n := 1) (by omega)]
    cases h1 : numR 1 l with
    | none => simp [numS_none h1]
    | some x1 =>
      obtain ⟨k, l1⟩ := x1
      simp only [numS_some h1]
      by_cases hk : k < 1 ∨ 4 < k ∨ 4096 < acc.length
      · rw [if_pos hk, if_pos hk]
      · rw [if_neg hk, if_neg hk]
        have h2 := item_told k l1
        cases hi : itemR k l1 with
        | none =>
          rw [hi] at h2
          simp only [Told] at h2
          simp only
          rw [h2]
          exact loopS_false _ _ _
        | some y =>
          obtain ⟨x, l2⟩ := y
          rw [hi] at h2
          simp only [Told] at h2
          simp only
          rw [h2]
          exact ih _ _
theorem parse_told (a : List UInt8) : match parseR a with
    | some L => parseS a = (L, true)
    | none => (parseS a).2 = false := by
  unfold parseR parseS
  cases h : takeB 8 a with
  | none => simp only [takeS_none h]; exact loopS_false _ _ _
  | some x => simp only [takeS_some h]; exact loop_told _ _ _

/-! Sizes. -/
theorem numS_len (n : Nat) (l : List UInt8) (ok : Bool) : (numS n l ok).2.1.length ≤ l.length ∧ (numS n l ok).1 < 4611686018427388160 ∧ (numS n l ok).1 < 256 ^ n := by
  unfold numS
  split
  · rename_i v m h
    have h1 := numR_len h
    have h2 := numR_lt h
    simp only at h1 h2 ⊢
    omega
  · exact ⟨Nat.le_refl _, by show 0 < _; omega, Nat.pow_pos (by decide)⟩
theorem numS_true {n : Nat} {l : List UInt8} {ok : Bool} (h : (numS n l ok).2.2 = true) : (numS n l ok).2.1.length + n = l.length ∧ ok = true := by
  unfold numS at *
  split at h
  · rename_i v m h1
    have h2 := numR_len h1
    simp only at h h2 ⊢
    exact ⟨by omega, h⟩
  · cases h
theorem takeS_len (n : Nat) (l : List UInt8) (ok : Bool) : (takeS n l ok).2.1.length ≤ l.length ∧ (takeS n l ok).1.length ≤ l.length := by
  unfold takeS
  split
  · rename_i v m h
    have h1 := takeB_len h
    simp only
    omega
  · simp
end Vl
