/- The dump's cut of a path into parts. -/
import Derived.Test.YtenpihkfghfpaaaDoorDParts
namespace Go.Proofs.YtenpihkfghfpaaaDoor
open Go.RowKit Vl
set_option linter.unusedVariables false

theorem index_slash (l : List UInt8) : ((47 : UInt8) ∉ l → Lib.index l [47] = -1) ∧ (∀ p q, l = p ++ 47 :: q → (47 : UInt8) ∉ p → Lib.index l [47] = (p.length : Int)) := by
  induction l with
  | nil => exact ⟨fun _ => rfl, fun p q h => by simp at h⟩
  | cons b l ih =>
    refine ⟨fun h => ?_, fun p q h hp => ?_⟩
    · simp only [List.mem_cons, not_or] at h
      have hb : ¬ ([47] : List UInt8).isPrefixOf (b :: l) = true := by simp [List.isPrefixOf, h.1]
      rw [Lib.index, if_neg hb, ih.1 h.2]
      rfl
    · cases p with
      | nil =>
        simp only [List.nil_append, List.cons.injEq] at h
        obtain ⟨rfl, rfl⟩ := h
        have hb : ([47] : List UInt8).isPrefixOf (47 :: l) = true := by simp [List.isPrefixOf]
        rw [Lib.index, if_pos hb]
        rfl
      | cons c p =>
        simp only [List.cons_append, List.cons.injEq] at h
        obtain ⟨rfl, h2⟩ := h
        simp only [List.mem_cons, not_or] at hp
        have hb : ¬ ([47] : List UInt8).isPrefixOf (b :: l) = true := by simp [List.isPrefixOf, hp.1]
        rw [Lib.index, if_neg hb, ih.2 p q h2 hp.2, if_neg (by rw [beq_iff_eq]; omega)]
        simp
theorem slash_split (l : List UInt8) (h : (47 : UInt8) ∈ l) : ∃ p q, l = p ++ 47 :: q ∧ (47 : UInt8) ∉ p := by
  induction l with
  | nil => cases h
  | cons b l ih =>
    by_cases hb : b = 47
    · exact ⟨[], l, by rw [hb]; rfl, by simp⟩
    · have hl : (47 : UInt8) ∈ l := by
        rcases List.mem_cons.1 h with e | e
        · exact absurd e.symm hb
        · exact e
      obtain ⟨p, q, h1, h2⟩ := ih hl
      refine ⟨b :: p, q, by rw [h1]; rfl, ?_⟩
      simp only [List.mem_cons, not_or]
      exact ⟨fun e => hb e.symm, h2⟩
theorem splitK_slash (n : Nat) : ∀ l : List UInt8, l.length ≤ n → Lib.splitK [47] 0 (Lib.count l [47]) l = splitS l ∧ Lib.count l [47] + 1 = (splitS l).length := by
  induction n with
  | zero =>
    intro l hl
    have : l = [] := List.eq_nil_of_length_eq_zero (by omega)
    subst this
    exact ⟨rfl, rfl⟩
  | succ n ih =>
    intro l hl
    by_cases h : (47 : UInt8) ∈ l
    · obtain ⟨p, q, rfl, hp⟩ := slash_split l h
      have hi := (index_slash (p ++ 47 :: q)).2 p q rfl hp
      have hd : (p ++ 47 :: q).drop (p.length + 1) = q := by
        rw [show p ++ 47 :: q = (p ++ [47]) ++ q by simp]
        rw [List.drop_append_of_le_length (by simp), List.drop_of_length_le (by simp)]
        rfl
      have hq := ih q (by simp at hl; omega)
      have hc : Lib.count (p ++ 47 :: q) [47] = 1 + Lib.count q [47] := by
        have := Lib.count_hit (s := p ++ 47 :: q) (sub := [47]) (i := p.length) (by simp) hi
        rw [show ([47] : List UInt8).length = 1 from rfl, hd] at this
        exact this
      rw [hc, splitS_append_slash p q hp, Nat.add_comm 1]
      refine ⟨?_, by rw [List.length_cons, ← hq.2]⟩
      rw [Lib.splitK, hi, if_neg (by rw [beq_iff_eq]; omega)]
      simp only [Int.toNat_natCast, Nat.add_zero, List.length_cons, List.length_nil, Nat.zero_add]
      rw [hd, hq.1]
      simp
    · have hi := (index_slash l).1 h
      rw [Lib.count_miss hi, splitS_of_free l h]
      exact ⟨rfl, rfl⟩
theorem splitB_slash (s : ByteArray) : (Lib.splitB ⟨#[47]⟩ 0 (Lib.countB s ⟨#[47]⟩) s).map bytes = splitS (bytes s) ∧ Lib.countB s ⟨#[47]⟩ + 1 = (splitS (bytes s)).length := by
  have h := splitK_slash _ (bytes s) (Nat.le_refl _)
  refine ⟨?_, h.2⟩
  rw [← h.1]
  exact Lib.splitB_data ⟨#[47]⟩ 0 (Lib.countB s ⟨#[47]⟩) s

/-- The library's own bound, whatever it is. -/
def MaxAt (w : World) : Prop := ∃ m, 0 < w.heap.size ∧ w.cell? ⟨0, 0, none⟩ = some (.int .i64 m)
theorem MaxAt.below {w w' : World} (h : MaxAt w) (hb : Below w.heap.size w w') : MaxAt w' := by
  obtain ⟨m, h1, h2⟩ := h
  exact ⟨m, Nat.lt_of_lt_of_le h1 hb.size, by rw [hb.cell h1]; exact h2⟩

theorem own_str {w : World} {B n : Nat} {xs : List (List UInt8)} {a : Option Addr} {c : Nat} (h : Own w B 9 (.slice a n c) n (scells xs)) {k : Nat} (hk : k < xs.length) :
    ∃ g, a = some ⟨g, 0, none⟩ ∧ w.cell? ⟨g, k, none⟩ = some (.string (strOf xs[k])) := by
  have hn : n = xs.length := by have := h.len; rw [scells_length] at this; exact this.symm
  cases a with
  | none => exact absurd (h.nil_of_none rfl).2.1 (by omega)
  | some ad =>
    obtain ⟨g, off, sp⟩ := ad
    obtain ⟨rfl, rfl, _, hc⟩ := h.cells rfl
    refine ⟨g, rfl, ?_⟩
    rw [hc k (by omega)]
    unfold scells
    rw [List.getElem?_map, List.getElem?_eq_getElem hk]; rfl

theorem own_pieces (w : World) (B : Nat) (hB : B ≤ w.heap.size) (l : List ByteArray) (n : Nat) (hn : n = l.length) (hn0 : n ≤ maxLen) : Own (w.alloc (.cells (l.map Value.string).toArray 9)) B 9 (.slice (some ⟨w.heap.size, 0, none⟩) n n) n (scells (l.map bytes)) := by
  subst hn
  have e : (l.map Value.string) = scells (l.map bytes) := by
    unfold scells
    rw [List.map_map]
    apply List.map_congr_left
    intro s _
    rfl
  rw [e]
  refine ⟨by rw [scells_length, List.length_map]; omega, .inr ⟨w.heap.size, l.length, (scells (l.map bytes)).toArray, rfl, hB, heap_alloc_new w _, Nat.le_refl _, hn0, by rw [List.size_toArray, scells_length, List.length_map]; omega, ?_⟩⟩
  rw [Nat.mul_one]
  exact List.take_of_length_le (by simp)

set_option maxRecDepth 100000 in
set_option maxHeartbeats 2000000 in
theorem cut_walk (s : ByteArray) (w : World) (hM : MaxAt w) (hs : s.size ≤ maxLen) : Calls Tryd.prog 31 #[.string s] w (PartsPost s w) := by
  unfold maxLen at hs
  by_cases hlong : 1023 < s.size
  · have hN : partsB (bytes s) = none := by
      unfold partsB
      cases hb : bytes s with
      | nil => rfl
      | cons c l =>
        simp only
        rw [if_neg]
        rintro ⟨h1, _⟩
        have := bytes_len s
        rw [hb] at this
        omega
    have HN := Lib.hid hN
    clear hN
    go_enter Tryd.func31, Tryd.ntmps31
    go_wp2
    go_ret2
    exact parts_none HN.out (Below.refl _ _)
  · have b1 : decide ((1023 : Int) < (s.size : Int)) = false := decide_eq_false (by omega)
    cases hpre : Lib.hasPrefix (bytes s) [47]
    · have hN : partsB (bytes s) = none := by
        unfold partsB
        cases hb : bytes s with
        | nil => rfl
        | cons c l =>
          simp only
          rw [if_neg]
          rintro ⟨_, rfl, _⟩
          rw [hb] at hpre
          simp [Lib.hasPrefix, List.isPrefixOf] at hpre
      have HN := Lib.hid hN
      have HP := Lib.hid (fun w => Tryd.strings_HasPrefix s ⟨#[47]⟩ w)
      rw [show Lib.hasPrefix s.data.toList (⟨#[47]⟩ : ByteArray).data.toList = false from hpre] at HP
      clear hN hpre
      go_enter Tryd.func31, Tryd.ntmps31
      go_wp2_with (go_at_call 50; refine (HP.out _).mono ?_; rintro e w' ⟨rfl, hw9⟩; rw [hw9])
      go_ret2
      exact parts_none HN.out (Below.refl _ _)
    · obtain ⟨t, ht⟩ : ∃ t, bytes s = 47 :: t := by
        cases hb : bytes s with
        | nil => rw [hb] at hpre; simp [Lib.hasPrefix, List.isPrefixOf] at hpre
        | cons c l =>
          rw [hb] at hpre
          simp [Lib.hasPrefix, List.isPrefixOf] at hpre
          exact ⟨l, by rw [← hpre]⟩
      have htl : t.length + 1 = s.size := by rw [← bytes_len, ht]; rfl
      have hex : bytes (s.extract 1 s.size) = t := by
        rw [bytes_extract s 1 s.size (Nat.le_refl _), ht]
        show t.take (s.size - 1) = t
        exact List.take_of_length_le (by omega)
      obtain ⟨hsp, hcn⟩ := splitB_slash (s.extract 1 s.size)
      rw [hex] at hsp hcn
      have HP := Lib.hid (fun w => Tryd.strings_HasPrefix s ⟨#[47]⟩ w)
      rw [show Lib.hasPrefix s.data.toList (⟨#[47]⟩ : ByteArray).data.toList = true from hpre] at HP
      obtain ⟨m, hm1, hm2⟩ := hM
      have HS := Lib.hid (Tryd.strings_Split (s.extract 1 s.size) ⟨#[47]⟩ m w (by rw [ByteArray.size_extract]; omega) hm2 (by decide))
      have hlen : (splitS t).length ≤ s.size := by
        have := congrArg List.length (joinP_split t)
        have h2 : ∀ ps : List (List UInt8), ps.length ≤ (joinP ps).length := by
          intro ps
          induction ps with
          | nil => simp
          | cons p ps ih => rw [joinP_cons]; simp only [List.length_cons, List.length_append]; omega
        have h3 := h2 (splitS t)
        rw [this] at h3
        simp only [List.length_cons] at h3
        omega
      have hlb : (Lib.splitB ⟨#[47]⟩ 0 (Lib.countB (s.extract 1 s.size) ⟨#[47]⟩) (s.extract 1 s.size)).length = (splitS t).length := by
        rw [← hsp, List.length_map]
      have HO := Lib.hid (own_pieces w w.heap.size (Nat.le_refl _) (Lib.splitB ⟨#[47]⟩ 0 (Lib.countB (s.extract 1 s.size) ⟨#[47]⟩) (s.extract 1 s.size)) (splitS t).length hlb.symm (by unfold maxLen; omega))
      rw [hsp] at HO
      have HT := Lib.hid ht
      have HTL := Lib.hid htl
      have HB0 : Hid (Below w.heap.size w (w.alloc (.cells ((Lib.splitB ⟨#[47]⟩ 0 (Lib.countB (s.extract 1 s.size) ⟨#[47]⟩) (s.extract 1 s.size)).map Value.string).toArray 9))) := Lib.hid ((Below.refl _ _).alloc (Nat.le_refl _) _)
      generalize w.alloc (.cells ((Lib.splitB ⟨#[47]⟩ 0 (Lib.countB (s.extract 1 s.size) ⟨#[47]⟩) (s.extract 1 s.size)).map Value.string).toArray 9) = w1 at *
      rw [hcn] at HS
      have HLE := Lib.hid hlen
      have h1s : 1 ≤ s.size := by omega
      clear hsp hcn hlb hex hm1 hm2 ht htl hpre hlen
      go_enter Tryd.func31, Tryd.ntmps31
      go_wp2_with (first
        | (go_at_call 50; refine (HP.out _).mono ?_; rintro e w' ⟨rfl, hw9⟩; rw [hw9])
        | (go_at_call 51; refine HS.out.mono ?_; rintro e w' ⟨rfl, hw9⟩; rw [hw9]))
      go_loopw [6, 20] (fun _ v20 wr => ∃ j : Nat, j ≤ (splitS t).length ∧ v20 = .int .i64 j ∧ (∀ p ∈ (splitS t).take j, nameB p = true) ∧ Below w1.heap.size w1 wr) (fun _ v20 _ => (splitS t).length - (intOf v20).toNat)
      case atStart => exact ⟨0, by omega, rfl, by simp, Below.refl _ _⟩
      case round =>
        obtain ⟨j, hj, rfl, hg, hb⟩ := hrel
        have HG := Lib.hid hg
        have HB := Lib.hid hb
        have HBw := Lib.hid (HB0.out.trans (hb.mono HB0.out.size))
        have HOw := Lib.hid (own_kept HO.out hb)
        clear hg hb
        have hl := HLE.out
        by_cases hjl : j < (splitS t).length
        · obtain ⟨g, eg, hc⟩ := own_str HOw.out hjl
          cases eg
          have HT2 := Lib.hid (List.take_succ_eq_append_getElem hjl)
          have HMEM := Lib.hid (List.getElem_mem hjl)
          have hsz : ((splitS t)[j]).length ≤ s.size := by
            have h1 := congrArg List.length (joinP_split t)
            have h2 : ∀ ps : List (List UInt8), ∀ p ∈ ps, p.length ≤ (joinP ps).length := by
              intro ps
              induction ps with
              | nil => simp
              | cons q ps ih =>
                intro p hp
                rw [joinP_cons]
                simp only [List.length_cons, List.length_append]
                rcases List.mem_cons.1 hp with rfl | hp
                · omega
                · have := ih p hp; omega
            have := h2 _ _ HMEM.out
            rw [h1] at this
            simp only [List.length_cons] at this
            have := HTL.out
            omega
          have HN := Lib.hid (fun w => codecName_walk (strOf (splitS t)[j]) w (by unfold maxLen; rw [strOf_size]; omega))
          clear hsz
          generalize (splitS t)[j] = p at *
          rw [show bytes (strOf p) = p from rfl] at HN
          by_cases hn : nameB p = true
          · rw [nameE_good hn] at HN
            have HNX := Lib.hid (show ∀ q ∈ (splitS t).take (j + 1), nameB q = true from fun q hq => by
              rw [HT2.out] at hq
              rcases List.mem_append.1 hq with hq | hq
              · exact HG.out q hq
              · rw [List.mem_singleton.1 hq]; exact hn)
            clear hn
            generalize strOf p = sp at *
            go_wp2_with (go_at_call 52; refine (HN.out _).mono ?_)
            rintro e w2 ⟨rfl, hb2⟩
            have HB2 := Lib.hid (HB.out.trans (hb2.mono HB.out.size))
            clear hb2
            go_wp2
            go_roundw
            case rel => exact ⟨j + 1, by omega, by go_num, HNX.out, HB2.out⟩
            case measure => simp [intOf]; omega
          · have hnf : nameB p = false := by simpa using hn
            have hq : (nameE p != 0) = true := by
              rw [bne_iff_ne]
              by_cases h54 : 54 < p.length
              · rw [nameE_long h54]; decide
              · rw [nameE_bad h54 hnf]; decide
            have HBN := Lib.hid (show partsB (bytes s) = none by
              rw [HT.out]
              unfold partsB
              simp only
              rw [if_neg]
              rintro ⟨_, _, h3⟩
              have := List.all_eq_true.1 h3 p HMEM.out
              rw [hnf] at this
              cases this)
            clear hn hnf
            generalize strOf p = sp at *
            generalize nameE p = q at *
            go_wp2_with (go_at_call 52; refine (HN.out _).mono ?_)
            rintro e w2 ⟨rfl, hb2⟩
            have HB2 := Lib.hid (HBw.out.trans (hb2.mono HBw.out.size))
            clear hb2
            go_wp2
            go_ret2
            exact parts_none HBN.out HB2.out
        · have hje : j = (splitS t).length := by omega
          have HS2 := Lib.hid (show partsB (bytes s) = some (splitS t) by
            rw [HT.out]
            have hg := HG.out
            rw [hje, List.take_length] at hg
            exact partsB_some_of (by have := HTL.out; omega) rfl hg)
          subst hje
          go_wp2
          go_ret2
          exact parts_some HS2.out HOw.out HBw.out
end Go.Proofs.YtenpihkfghfpaaaDoor
