/- The dump's order of part lists; the reference's key of a path. -/
import Derived.Test.YtenpihkfghfpaaaDoorDCut
namespace Go.Proofs.YtenpihkfghfpaaaDoor
open Go.RowKit Vl
set_option linter.unusedVariables false

theorem bytesLess_ltB (a b : List UInt8) : Op.bytesLess a b = ltB a b := by
  induction a generalizing b with
  | nil => cases b <;> rfl
  | cons x a ih =>
    cases b with
    | nil => rfl
    | cons y b =>
      simp only [Op.bytesLess, ltB, ih]
      by_cases h : x = y
      · subst h
        have : ¬ x < x := fun e => by have : x.toNat < x.toNat := e; omega
        simp [this]
      · simp [h]

theorem aheadB_cons (p q : List UInt8) (ps qs : List (List UInt8)) : aheadB (p :: ps) (q :: qs) = if p = q then aheadB ps qs else ltB p q := rfl
theorem aheadB_prefix (k : Nat) : ∀ (ps qs : List (List UInt8)), ps.take k = qs.take k → k ≤ ps.length → k ≤ qs.length → aheadB ps qs = aheadB (ps.drop k) (qs.drop k) := by
  induction k with
  | zero => intro ps qs _ _ _; rfl
  | succ k ih =>
    intro ps qs h h1 h2
    cases ps with
    | nil => simp at h1
    | cons p ps =>
      cases qs with
      | nil => simp at h2
      | cons q qs =>
        simp only [List.take_succ_cons, List.cons.injEq] at h
        obtain ⟨rfl, h⟩ := h
        rw [aheadB_cons, if_pos rfl]
        simp only [List.drop_succ_cons]
        exact ih ps qs h (by simpa using h1) (by simpa using h2)
theorem aheadB_end {ps qs : List (List UInt8)} {k : Nat} (h : ps.take k = qs.take k) (h1 : k ≤ ps.length) (h2 : k ≤ qs.length) (he : k = ps.length ∨ k = qs.length) : aheadB ps qs = decide (ps.length < qs.length) := by
  rw [aheadB_prefix k ps qs h h1 h2]
  rcases he with rfl | rfl
  · rw [List.drop_length]
    cases hq : qs.drop ps.length with
    | nil =>
      have := congrArg List.length hq
      rw [List.length_drop] at this
      simp only [List.length_nil] at this
      rw [decide_eq_false (by omega)]; rfl
    | cons q l =>
      have := congrArg List.length hq
      rw [List.length_drop] at this
      simp only [List.length_cons] at this
      rw [decide_eq_true (by omega)]; rfl
  · rw [List.drop_length, decide_eq_false (by omega)]
    cases ps.drop qs.length <;> rfl
theorem aheadB_at {ps qs : List (List UInt8)} {k : Nat} (h : ps.take k = qs.take k) (h1 : k < ps.length) (h2 : k < qs.length) (hne : ps[k] ≠ qs[k]) : aheadB ps qs = ltB ps[k] qs[k] := by
  rw [aheadB_prefix k ps qs h (by omega) (by omega), List.drop_eq_getElem_cons h1, List.drop_eq_getElem_cons h2, aheadB_cons, if_neg hne]

set_option maxRecDepth 100000 in
set_option maxHeartbeats 1000000 in
theorem ahead_walk (B B' : Nat) (va vb : Value) (xs ys : List (List UInt8)) (w : World) (ha : Own w B 9 va xs.length (scells xs)) (hb : Own w B' 9 vb ys.length (scells ys)) (hx : xs.length ≤ 1000000) (hy : ys.length ≤ 1000000) :
    Calls Tryd.prog 32 #[va, vb] w fun e w' => e = .returned (.bool (aheadB xs ys)) ∧ Below w.heap.size w w' := by
  obtain ⟨aa, ca, rfl⟩ := ha.form
  obtain ⟨ab, cb, rfl⟩ := hb.form
  have HA := Lib.hid ha
  have HB := Lib.hid hb
  clear ha hb
  go_enter Tryd.func32, Tryd.ntmps32
  go_wp2
  go_loopw [5] (fun i wr => ∃ k : Nat, k ≤ xs.length ∧ k ≤ ys.length ∧ i = .int .i64 k ∧ xs.take k = ys.take k ∧ Below w.heap.size w wr) (fun i _ => xs.length - (intOf i).toNat)
  case atStart => exact ⟨0, by omega, by omega, rfl, rfl, Below.refl _ _⟩
  case round =>
    obtain ⟨k, hk, hk2, rfl, ht, hbw⟩ := hrel
    have HT := Lib.hid ht
    have HBW := Lib.hid hbw
    clear ht hbw
    by_cases hlt : k < xs.length
    · by_cases hlt2 : k < ys.length
      · obtain ⟨ga, ea, hca⟩ := own_str (own_kept HA.out HBW.out) hlt
        obtain ⟨gb, eb, hcb⟩ := own_str (own_kept HB.out HBW.out) hlt2
        cases ea
        cases eb
        by_cases he : xs[k] = ys[k]
        · rw [he] at hca
          have HE := Lib.hid he
          clear he
          generalize hsv : strOf ys[k] = sv at *
          go_wp2
          refine wp_canon (by kernel_rfl) (by kernel_rfl) ?_
          go_wp2
          refine ⟨rfl, ?_⟩
          go_wp2
          go_roundw
          case rel =>
            refine ⟨k + 1, by omega, by omega, by go_num, ?_, HBW.out.drew⟩
            rw [List.take_succ_eq_append_getElem hlt, List.take_succ_eq_append_getElem hlt2, HT.out, HE.out]
          case measure => simp [intOf]; omega
        · have hne : ((strOf xs[k]).toList == (strOf ys[k]).toList) = false := by
            rw [ByteArray.toList_eq, ByteArray.toList_eq, beq_eq_false_iff_ne]; exact he
          have hres : Op.bytesLess (strOf xs[k]).toList (strOf ys[k]).toList = aheadB xs ys := by
            rw [ByteArray.toList_eq, ByteArray.toList_eq, bytesLess_ltB]
            exact (aheadB_at HT.out hlt hlt2 he).symm
          have HR := Lib.hid hres
          clear hres
          have HE := Lib.hid he
          clear he
          generalize hsv : strOf ys[k] = sv at *
          generalize hsu : strOf xs[k] = su at *
          go_wp2
          refine wp_canon (by kernel_rfl) (by kernel_rfl) ?_
          go_wp2
          refine ⟨rfl, ?_⟩
          go_wp2
          refine wp_canon (by kernel_rfl) (by kernel_rfl) ?_
          go_wp2
          refine ⟨rfl, ?_⟩
          go_wp2
          go_ret
          exact ⟨by rw [← HR.out]; rfl, HBW.out.drew.drew⟩
      · have HE := Lib.hid (aheadB_end HT.out hk hk2 (.inr (by omega)))
        go_wp2
        go_ret
        exact ⟨by rw [HE.out]; simp, HBW.out⟩
    · have HE := Lib.hid (aheadB_end HT.out hk hk2 (.inl (by omega)))
      go_wp2
      go_ret
      exact ⟨by rw [HE.out]; simp, HBW.out⟩
end Go.Proofs.YtenpihkfghfpaaaDoor
