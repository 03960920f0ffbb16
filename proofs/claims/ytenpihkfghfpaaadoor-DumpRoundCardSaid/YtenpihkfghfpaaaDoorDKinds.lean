/- The map of kinds that dump's right keeps. -/
import Derived.Test.YtenpihkfghfpaaaDoorDAdd
import Derived.Maps.Own
import Derived.Maps.Views
namespace Go.Proofs.YtenpihkfghfpaaaDoor
open Go.RowKit Vl Go.Maps
set_option linter.unusedVariables false

/-- What the map says of a path, k items being in. -/
def kindM (L : List Itm) (k : Nat) (s : List UInt8) : Int := if s = [] then 2 else kindAt (L.take k) s
theorem kindM_zero (L : List Itm) (s : List UInt8) : kindM L 0 s = if s = [] then 2 else 0 := rfl
theorem path_ne {x : List UInt8} {ps : List (List UInt8)} (h : partsB x = some ps) : x ≠ [] := by
  obtain ⟨_, hj, hne, _⟩ := partsB_some h
  rw [hj]
  cases ps with
  | nil => exact absurd rfl hne
  | cons p ps => rw [joinP_cons]; simp
theorem kindM_next {L : List Itm} {k : Nat} (hk : k < L.length) (hr : Rising L (k + 1)) (hx : L[k].path ≠ []) (s : List UInt8) : kindM L (k + 1) s = if s = L[k].path then L[k].kind else kindM L k s := by
  have hfresh : ∀ i (hi : i < L.length), i < k → L[i].path ≠ L[k].path := by
    intro i hi hik e
    have h1 := hr i k hi hk hik (by omega)
    rw [e, ltB_irrefl] at h1
    cases h1
  unfold kindM
  by_cases e : s = L[k].path
  · subst e
    rw [if_neg hx, if_pos rfl]
    exact find_some hk (by omega) rfl hfresh
  · rw [if_neg e]
    by_cases e0 : s = []
    · rw [if_pos e0, if_pos e0]
    · rw [if_neg e0, if_neg e0]
      unfold kindAt
      rw [List.take_succ_eq_append_getElem hk, List.find?_append]
      have : [L[k]].find? (fun y => y.path == s) = none := by
        rw [List.find?_eq_none]
        intro y hy
        rw [List.mem_singleton.1 hy]
        simpa using fun h => e h.symm
      rw [this]
      cases (L.take k).find? (fun y => y.path == s) <;> rfl
/-- The kind of what holds it, as both ask it. -/
theorem kindM_up {L : List Itm} {k : Nat} {ps : List (List UInt8)} (hps : ps ≠ []) : decide (kindM L k (joinP ps.dropLast) = 2) = (decide (ps.length ≤ 1) || decide (kindAt (L.take k) (joinP ps.dropLast) = 2)) := by
  unfold kindM
  by_cases h1 : ps.length ≤ 1
  · have : ps.dropLast = [] := List.eq_nil_of_length_eq_zero (by rw [List.length_dropLast]; omega)
    rw [this]
    simp [joinP, h1]
  · have hne : joinP ps.dropLast ≠ [] := by
      intro e
      have h2 := joinP_len ps.dropLast
      rw [e, List.length_dropLast] at h2
      simp at h2
      omega
    rw [if_neg hne]
    simp [h1]

theorem PK.at {L : List Itm} {k : Nat} (h : PK L k) {i : Nat} (hi : i < k) (hk : k ≤ L.length) : rightAt (L.take i) (L[i]'(by omega)) = true := by
  have e : L.take k = L.take i ++ ((L[i]'(by omega)) :: (L.take k).drop (i + 1)) := by
    conv => lhs; rw [← List.take_append_drop i (L.take k)]
    rw [List.take_take, Nat.min_eq_left (by omega), List.drop_eq_getElem_cons (by rw [List.length_take]; omega), List.getElem_take]
  have h1 := h.right
  rw [e, rightFrom_append] at h1
  simp only [List.nil_append, rightFrom, Bool.and_eq_true] at h1
  exact h1.2.1
theorem right_parts {prev : List Itm} {x : Itm} (h : rightAt prev x = true) : ∃ ps, partsB x.path = some ps := by
  cases hp : partsB x.path with
  | none => rw [rightAt_none hp] at h; cases h
  | some ps => exact ⟨ps, rfl⟩
/-- A link asks for a file; the root is none. -/
theorem kindM_link {L : List Itm} {k : Nat} (h : PK L k) (hk : k ≤ L.length) (t : List UInt8) : decide (kindM L k t = 1) = decide (kindAt (L.take k) t = 1) := by
  unfold kindM
  by_cases e : t = []
  · subst e
    rw [if_pos rfl, find_none (fun i hi hik e => ?_)]
    · decide
    · obtain ⟨ps, hp⟩ := right_parts (h.at hik hk)
      exact path_ne hp e
  · rw [if_neg e]
theorem index_zero (l : List UInt8) (c : UInt8) : decide (Lib.indexByte l c < 0) = !l.contains c := by
  induction l with
  | nil => rfl
  | cons b l ih =>
    unfold Lib.indexByte
    by_cases e : b = c
    · subst e; simp
    · have e1 : (b == c) = false := beq_eq_false_iff_ne.2 e
      have e2 : (c == b) = false := beq_eq_false_iff_ne.2 (Ne.symm e)
      have hge := Lib.indexByte_ge l c
      rw [e1, List.contains_cons, e2, Bool.false_or, ← ih]
      by_cases e3 : Lib.indexByte l c = -1
      · rw [e3]; decide
      · have e4 : (Lib.indexByte l c == -1) = false := beq_eq_false_iff_ne.2 e3
        rw [e4]
        simp only [Bool.false_eq_true, if_false]
        rw [Bool.eq_iff_iff, decide_eq_true_iff, decide_eq_true_iff]
        omega

variable {H : Type}
/-- The map as a datum. -/
structure KM (L : List Itm) (k : Nat) (D : DataW H) : Prop where
  map : IsMap D
  at_ : ∀ s, D.atKey (.string s) (.lit (.int .i64 0)) = .lit (.int .i64 (kindM L k s))
theorem KM.start (L : List Itm) : KM L 0 ((DataW.map [] : DataW H).put (.string []) (.lit (.int .i64 2))) := by
  refine ⟨isMap_empty.put _ _, fun s => ?_⟩
  rw [kindM_zero]
  by_cases e : s = []
  · subst e; rw [atKey_put_same (k := .string []) isMap_empty trivial, if_pos rfl]
  · rw [atKey_put_other (by simpa using e), if_neg e]; rfl
theorem KM.next {L : List Itm} {k : Nat} {D : DataW H} (h : KM L k D) (hk : k < L.length) (hr : Rising L (k + 1)) (hx : L[k].path ≠ []) : KM L (k + 1) (D.put (.string L[k].path) (.lit (.int .i64 L[k].kind))) := by
  refine ⟨h.map.put _ _, fun s => ?_⟩
  rw [kindM_next hk hr hx]
  by_cases e : s = L[k].path
  · subst e; rw [atKey_put_same (k := .string L[k].path) h.map trivial, if_pos rfl]
  · rw [atKey_put_other (by simpa using e), if_neg e]; exact h.at_ s

theorem kept_below {P : Program} {k : TypeId} {R : Value → Option (DataW H × List MemPlace)} {w w' : World} {b n : Nat} {D : DataW H} (h : w.ownsMap P k R b n D) (hb : Below w.heap.size w w') : w'.ownsMap P k R b n D :=
  h.kept (row := none) ⟨hb.os, hb.tape, hb.output, hb.size, fun k hk _ => hb.block k hk⟩ (by simp)

/-- The place of the last slash. -/
theorem lastSlash {ps : List (List UInt8)} {s : ByteArray} (h : partsB (bytes s) = some ps) : Lib.lastIndexByte s 47 = ((joinP ps.dropLast).length : Int) := by
  obtain ⟨_, hj, hne, hnm⟩ := partsB_some h
  have e := join_last hne
  have hlen : s.size = (joinP ps.dropLast).length + 1 + (ps.getLast hne).length := by
    rw [← bytes_len, hj]
    conv => lhs; rw [e]
    rw [List.length_append, List.length_cons]; omega
  have hat : ∀ i (hi : i < s.size), s.data[i]! = (bytes s)[i]'(by rw [bytes_len]; exact hi) := by
    intro i hi
    rw [getElem!_pos s.data i hi]; rfl
  have hb : ∀ i (hi : i < s.size), (bytes s)[i]'(by rw [bytes_len]; exact hi) = (joinP ps.dropLast ++ 47 :: ps.getLast hne)[i]'(by rw [List.length_append, List.length_cons]; omega) := by
    intro i hi
    congr 1
    rw [hj]; exact e
  have hfree := (nameB_free (hnm _ (List.getLast_mem hne))).1
  have hmid : ((s.data[(joinP ps.dropLast).length]!).toNat : Int) = 47 := by
    rw [hat _ (by omega), hb _ (by omega), List.getElem_append_right (Nat.le_refl _)]
    simp
  unfold Lib.lastIndexByte
  rcases Lib.lastIdx_spec s 47 s.size with ⟨_, hn⟩ | ⟨i, hi, hv, hc, hn⟩
  · exact absurd hmid (hn _ (by omega))
  · rw [hv]
    rcases Nat.lt_trichotomy i (joinP ps.dropLast).length with hlt | heq | hgt
    · exact absurd hmid (hn _ hlt (by omega))
    · rw [heq]
    · exfalso
      rw [hat _ hi, hb _ hi, List.getElem_append_right (by omega)] at hc
      obtain ⟨m, hm⟩ : ∃ m, i - (joinP ps.dropLast).length = m + 1 := ⟨i - (joinP ps.dropLast).length - 1, by omega⟩
      simp only [hm, List.getElem_cons_succ] at hc
      exact hfree (by
        have h47 : (ps.getLast hne)[m]'(by omega) = 47 := by
          rw [← UInt8.toNat_inj]
          exact_mod_cast hc
        rw [← h47]
        exact List.getElem_mem _)
end Go.Proofs.YtenpihkfghfpaaaDoor
