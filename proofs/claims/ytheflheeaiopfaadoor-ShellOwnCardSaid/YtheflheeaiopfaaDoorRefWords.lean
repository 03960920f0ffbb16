/- The reference's Words: what it tells of every line. -/
import Derived.Test.YtheflheeaiopfaaDoorRefWalk3
namespace Go.Proofs.YtheflheeaiopfaaDoor
open Go.RowKit Vl
set_option linter.unusedVariables false

def wsOf (l : List UInt8) : List (List UInt8) := if 65536 < l.length then [] else (W.wordsOf l).getD []
def erOf (l : List UInt8) : Int := if 65536 < l.length then 7 else if (W.wordsOf l).isNone then 160 else 0

/-- What a call of Words leaves: the words in a list of the call's own, the error's number. -/
def WPost (l : List UInt8) (w : World) (e : Ending) (w' : World) : Prop :=
  ∃ v, e = .returned (.tuple #[v, .int .i64 (erOf l)]) ∧ Own w' w.heap.size 9 v (wsOf l).length (scells (wsOf l)) ∧ Below w.heap.size w w'

theorem wpost_long {l : List UInt8} (h : 65536 < l.length) (w : World) : WPost l w (.returned (.tuple #[.slice none 0 0, .int .i64 7])) w := by
  refine ⟨.slice none 0 0, by unfold erOf; rw [if_pos h], ?_, Below.refl _ _⟩
  unfold wsOf; rw [if_pos h]; exact Own.nil _ _ _

theorem wpost_none {l : List UInt8} (h : ¬ 65536 < l.length) (hn : W.wordsOf l = none) {w w' : World} (hb : Below w.heap.size w w') : WPost l w (.returned (.tuple #[.slice none 0 0, .int .i64 160])) w' := by
  refine ⟨.slice none 0 0, by unfold erOf; rw [if_neg h, hn]; rfl, ?_, hb⟩
  unfold wsOf; rw [if_neg h, hn]; exact Own.nil _ _ _

theorem wpost_some {l : List UInt8} (h : ¬ 65536 < l.length) {ws : List (List UInt8)} (hn : W.wordsOf l = some ws) {w w' : World} {v : Value} (ho : Own w' w.heap.size 9 v ws.length (scells ws)) (hb : Below w.heap.size w w') :
    WPost l w (.returned (.tuple #[v, .int .i64 0])) w' := by
  refine ⟨v, by unfold erOf; rw [if_neg h, hn]; rfl, ?_, hb⟩
  unfold wsOf; rw [if_neg h, hn]; exact ho

theorem Own.down {w : World} {B B' : Nat} {e : TypeId} {v : Value} {n : Nat} {xs : List Value} (h : Own w B e v n xs) (hB : B' ≤ B) : Own w B' e v n xs := by
  refine ⟨h.1, ?_⟩
  rcases h.2 with hn | ⟨g, cap, cur, rfl, hb', hg, hr⟩
  · exact .inl hn
  · exact .inr ⟨g, cap, cur, rfl, by omega, hg, hr⟩

theorem ref_init (w : World) (o : Obj) (ho : o = .cells #[.int .i64 0, .slice none 0 0, .slice none 0 0, .int .i64 0, .bool false] 48 (0, 0)) : Ref (w.alloc o) w.heap.size (w.heap.size + 1) W.init := by
  subst ho
  exact ⟨_, _, by omega, by rw [size_alloc]; omega, heap_alloc_new w _, Own.nil _ _ _, Own.nil _ _ _⟩

def bytes (s : ByteArray) : List UInt8 := s.data.toList
theorem bytes_len (s : ByteArray) : (bytes s).length = s.size := Array.length_toList
theorem bytes_take (s : ByteArray) (k : Nat) (h : k < s.size) : (bytes s).take (k + 1) = (bytes s).take k ++ [s[k]] := by
  unfold bytes
  rw [List.take_succ_eq_append_getElem (by rw [Array.length_toList]; exact h)]; rfl

theorem told_at {s : W.RS} (h : s.at_ = 1) : W.told s = if s.bad then none else some s.ends.words := by
  unfold W.told
  rw [if_pos h]
  show (if s.bad || s.at_ == 2 || s.at_ == 3 || s.at_ == 4 || s.at_ == 5 then none else some s.ends.words) = _
  rw [h, show ((1 : Nat) == 2) = false from rfl, show ((1 : Nat) == 3) = false from rfl, show ((1 : Nat) == 4) = false from rfl, show ((1 : Nat) == 5) = false from rfl]
  simp only [Bool.or_false]
theorem told_not {s : W.RS} (h : s.at_ ≠ 1) : W.told s = if s.bad || s.at_ == 2 || s.at_ == 3 || s.at_ == 4 || s.at_ == 5 then none else some s.words := by
  unfold W.told; rw [if_neg h]

/-- The end of the reading: the last word, then the verdict. -/
theorem int_eqs {n k : Nat} (h : n = k) : ∀ j : Nat, (((n : Int)) == (j : Int)) = decide (k = j) := by
  intro j; subst h; rw [Bool.eq_iff_iff]; simp; omega

theorem told_bad {s : W.RS} (h : s.bad = true) : W.told s = none := by
  by_cases e : s.at_ = 1
  · rw [told_at e, h]; rfl
  · rw [told_not e, h]; rfl
theorem told_open {s : W.RS} (h : s.at_ = 2 ∨ s.at_ = 3 ∨ s.at_ = 4 ∨ s.at_ = 5) : W.told s = none := by
  rw [told_not (by omega)]
  rcases h with h | h | h | h <;> rw [h] <;> cases s.bad <;> rfl
theorem told_done {s : W.RS} (hb : s.bad = false) (h : s.at_ = 0 ∨ s.at_ = 6 ∨ s.at_ = 7) : W.told s = some s.words := by
  rw [told_not (by omega), hb]
  rcases h with h | h | h <;> rw [h] <;> rfl
theorem told_last {s : W.RS} (hb : s.bad = false) (h : s.at_ = 1) : W.told s = some s.ends.words := by
  rw [told_at h, hb]; rfl

theorem out_below {w w' : World} {o : Obj} (h : Out w.heap.size (w.heap.size + 1) (w.alloc o) w') : Below w.heap.size w w' :=
  ((Below.refl w.heap.size w).alloc (Nat.le_refl _) o).trans (h.below (Nat.le_refl _) (by omega))

set_option maxHeartbeats 400000 in
theorem refWords_walk (s : ByteArray) (w : World) (hs : s.size ≤ maxLen) : Calls Tryd.prog 8 #[.string s] w (WPost (bytes s) w) := by
  unfold maxLen at hs
  by_cases hlong : 65536 < s.size
  · have hw := wpost_long (l := bytes s) (by rw [bytes_len]; exact hlong) w
    go_enter Tryd.func8, Tryd.ntmps8
    go_wp2
    go_ret2
    exact hw
  · go_enter Tryd.func8, Tryd.ntmps8
    go_wp2
    go_loopw [5] (fun i wr => ∃ k : Nat, k ≤ s.size ∧ i = .int .i64 k ∧ Ref wr w.heap.size (w.heap.size + 1) (W.run ((bytes s).take k) W.init) ∧ Out w.heap.size (w.heap.size + 1) (w.alloc (.cells #[.int .i64 0, .slice none 0 0, .slice none 0 0, .int .i64 0, .bool false] 48 (0, 0))) wr) (fun i _ => s.size - (intOf i).toNat)
    case atStart => exact ⟨0, by omega, rfl, ref_init w _ rfl, Out.refl _ _ _⟩
    case round =>
      obtain ⟨k, hk, rfl, hr, ho⟩ := hrel
      have hf := W.Fit.run ((bytes s).take k) W.Fit.init
      have hlen : ((bytes s).take k).length = k := by rw [List.length_take, bytes_len]; omega
      rw [hlen] at hf
      obtain ⟨q1, q2, q3, q4, q5⟩ := hf
      have hsnoc : ∀ h : k < s.size, (W.run ((bytes s).take k) W.init).bad = false → W.run ((bytes s).take (k + 1)) W.init = (W.run ((bytes s).take k) W.init).next s[k] := fun h hb => by
        rw [bytes_take s k h, W.run_snoc _ _ _ hb]
      have hall : (k = s.size ∨ (W.run ((bytes s).take k) W.init).bad = true) → W.wordsOf (bytes s) = W.told (W.run ((bytes s).take k) W.init) := fun h => by
        unfold W.wordsOf
        rcases h with h | h
        · rw [List.take_of_length_le (by rw [bytes_len]; omega)]
        · conv => lhs; rw [← List.take_append_drop k (bytes s)]
          rw [W.run_append, W.run_bad _ h]
      have HS := Lib.hid hsnoc
      have HA := Lib.hid hall
      clear hsnoc hall hlen
      generalize W.run ((bytes s).take k) W.init = t at *
      obtain ⟨c0, c3, c4, f⟩ := ref_cells hr
      have f0 := f 0
      clear f
      by_cases hlt : k < s.size
      · cases hb : t.bad with
        | false =>
          rw [hb] at c4
          have HB := Lib.hid hb
          clear hb
          go_wp2_with (go_at_call 18; refine (next_walk w.heap.size (w.heap.size + 1) t s[k] _ hr (by omega) (by omega) q4 (by omega) (fun h => q5 h HB.out)).mono ?_; rintro e w' ⟨rfl, hr', ho'⟩)
          go_roundw
          case rel => exact ⟨k + 1, by omega, by go_num, by rw [HS.out hlt HB.out]; exact hr', ho.trans ho'⟩
          case measure => simp [intOf]; omega
        | true =>
          rw [hb] at c4
          have HB := Lib.hid hb
          clear hb
          by_cases ek : t.at_ = 1
          · have EK := Lib.hid ek
            rw [ek] at c0
            clear ek
            go_wp2_with fail
            refine (ends_walk w.heap.size (w.heap.size + 1) t _ hr (by omega) (by omega)).mono ?_
            rintro e w' ⟨rfl, hr', ho'⟩
            obtain ⟨c0', _, c4', f'⟩ := ref_cells hr'
            have c0'' : w'.cell? ⟨w.heap.size, 0, none⟩ = some (.int .i64 1) := by rw [c0']; show some (Value.int .i64 (t.at_ : Int)) = _; rw [EK.out]; rfl
            have c4'' : w'.cell? ⟨w.heap.size, 4, none⟩ = some (.bool true) := by rw [c4']; show some (Value.bool t.bad) = _; rw [HB.out]
            clear c0' c4' c0 c4 f0 f'
            go_wp2
            go_ret2
            exact wpost_none (by rw [bytes_len]; exact hlong) (by rw [HA.out (.inr HB.out)]; exact told_bad HB.out) (out_below (ho.trans ho'))
          · have ek' : ((t.at_ : Int) == 1) = false := by simp; omega
            have EK := Lib.hid ek
            clear ek
            go_wp2
            go_ret2
            exact wpost_none (by rw [bytes_len]; exact hlong) (by rw [HA.out (.inr HB.out)]; exact told_bad HB.out) (out_below (ho))
      · have hkk : k = s.size := by omega
        have HK := Lib.hid hkk
        clear hkk
        rcases (by omega : t.at_ = 0 ∨ t.at_ = 1 ∨ t.at_ = 2 ∨ t.at_ = 3 ∨ t.at_ = 4 ∨ t.at_ = 5 ∨ t.at_ = 6 ∨ t.at_ = 7) with ek | ek | ek | ek | ek | ek | ek | ek
        · rw [ek] at c0
          cases hb : t.bad with
          | true =>
            rw [hb] at c4
            have HB := Lib.hid hb
            have EK := Lib.hid ek
            clear ek hb
            go_wp2
            go_ret2
            exact wpost_none (by rw [bytes_len]; exact hlong) (by rw [HA.out (.inl HK.out)]; exact told_bad HB.out) (out_below (ho))
          | false =>
            rw [hb] at c4
            have HB := Lib.hid hb
            have EK : Hid (t.at_ = 0 ∨ t.at_ = 6 ∨ t.at_ = 7) := by show _ ∨ _; omega
            clear ek hb
            obtain ⟨vw, vws, hA⟩ := hr
            have c2 := cell_whole hA.heap 2
            simp only [List.getElem?_toArray, List.getElem?_cons_succ, List.getElem?_cons_zero] at c2
            obtain ⟨a2, d2, rfl⟩ := hA.words.form
            go_wp2
            go_ret2
            exact wpost_some (by rw [bytes_len]; exact hlong) (by rw [HA.out (.inl HK.out), told_done HB.out EK.out]) (Own.down hA.words (by omega)) (out_below ho)
        · rw [ek] at c0
          cases hb : t.bad with
          | true =>
            rw [hb] at c4
            have HB := Lib.hid hb
            have EK := Lib.hid ek
            clear ek hb
            go_wp2_with fail
            refine (ends_walk w.heap.size (w.heap.size + 1) t _ hr (by omega) (by omega)).mono ?_
            rintro e w' ⟨rfl, hr', ho'⟩
            obtain ⟨c0', _, c4', f'⟩ := ref_cells hr'
            have c0'' : w'.cell? ⟨w.heap.size, 0, none⟩ = some (.int .i64 1) := by rw [c0']; show some (Value.int .i64 (t.at_ : Int)) = _; rw [EK.out]; rfl
            have c4'' : w'.cell? ⟨w.heap.size, 4, none⟩ = some (.bool true) := by rw [c4']; show some (Value.bool t.bad) = _; rw [HB.out]
            clear c0' c4' c0 c4 f0 f'
            go_wp2
            go_ret2
            exact wpost_none (by rw [bytes_len]; exact hlong) (by rw [HA.out (.inl HK.out)]; exact told_bad HB.out) (out_below (ho.trans ho'))
          | false =>
            rw [hb] at c4
            have HB := Lib.hid hb
            have EK := Lib.hid ek
            clear ek hb
            go_wp2_with fail
            refine (ends_walk w.heap.size (w.heap.size + 1) t _ hr (by omega) (by omega)).mono ?_
            rintro e w' ⟨rfl, hr', ho'⟩
            obtain ⟨c0', _, c4', f'⟩ := ref_cells hr'
            have c0'' : w'.cell? ⟨w.heap.size, 0, none⟩ = some (.int .i64 1) := by rw [c0']; show some (Value.int .i64 (t.at_ : Int)) = _; rw [EK.out]; rfl
            have c4'' : w'.cell? ⟨w.heap.size, 4, none⟩ = some (.bool false) := by rw [c4']; show some (Value.bool t.bad) = _; rw [HB.out]
            clear c0' c4' c0 c4 f0 f'
            obtain ⟨vw, vws, hA⟩ := hr'
            have c2 := cell_whole hA.heap 2
            simp only [List.getElem?_toArray, List.getElem?_cons_succ, List.getElem?_cons_zero] at c2
            obtain ⟨a2, d2, rfl⟩ := hA.words.form
            go_wp2
            go_ret2
            exact wpost_some (by rw [bytes_len]; exact hlong) (by rw [HA.out (.inl HK.out), told_last HB.out EK.out]) (Own.down hA.words (by omega)) (out_below (ho.trans ho'))
        · rw [ek] at c0
          cases hb : t.bad with
          | true =>
            rw [hb] at c4
            have HB := Lib.hid hb
            have EK := Lib.hid ek
            clear ek hb
            go_wp2
            go_ret2
            exact wpost_none (by rw [bytes_len]; exact hlong) (by rw [HA.out (.inl HK.out)]; exact told_bad HB.out) (out_below (ho))
          | false =>
            rw [hb] at c4
            have HB := Lib.hid hb
            have EK : Hid (t.at_ = 2 ∨ t.at_ = 3 ∨ t.at_ = 4 ∨ t.at_ = 5) := by show _ ∨ _; omega
            clear ek hb
            go_wp2
            go_ret2
            exact wpost_none (by rw [bytes_len]; exact hlong) (by rw [HA.out (.inl HK.out)]; exact told_open EK.out) (out_below (ho))
        · rw [ek] at c0
          cases hb : t.bad with
          | true =>
            rw [hb] at c4
            have HB := Lib.hid hb
            have EK := Lib.hid ek
            clear ek hb
            go_wp2
            go_ret2
            exact wpost_none (by rw [bytes_len]; exact hlong) (by rw [HA.out (.inl HK.out)]; exact told_bad HB.out) (out_below (ho))
          | false =>
            rw [hb] at c4
            have HB := Lib.hid hb
            have EK : Hid (t.at_ = 2 ∨ t.at_ = 3 ∨ t.at_ = 4 ∨ t.at_ = 5) := by show _ ∨ _; omega
            clear ek hb
            go_wp2
            go_ret2
            exact wpost_none (by rw [bytes_len]; exact hlong) (by rw [HA.out (.inl HK.out)]; exact told_open EK.out) (out_below (ho))
        · rw [ek] at c0
          cases hb : t.bad with
          | true =>
            rw [hb] at c4
            have HB := Lib.hid hb
            have EK := Lib.hid ek
            clear ek hb
            go_wp2
            go_ret2
            exact wpost_none (by rw [bytes_len]; exact hlong) (by rw [HA.out (.inl HK.out)]; exact told_bad HB.out) (out_below (ho))
          | false =>
            rw [hb] at c4
            have HB := Lib.hid hb
            have EK : Hid (t.at_ = 2 ∨ t.at_ = 3 ∨ t.at_ = 4 ∨ t.at_ = 5) := by show _ ∨ _; omega
            clear ek hb
            go_wp2
            go_ret2
            exact wpost_none (by rw [bytes_len]; exact hlong) (by rw [HA.out (.inl HK.out)]; exact told_open EK.out) (out_below (ho))
        · rw [ek] at c0
          cases hb : t.bad with
          | true =>
            rw [hb] at c4
            have HB := Lib.hid hb
            have EK := Lib.hid ek
            clear ek hb
            go_wp2
            go_ret2
            exact wpost_none (by rw [bytes_len]; exact hlong) (by rw [HA.out (.inl HK.out)]; exact told_bad HB.out) (out_below (ho))
          | false =>
            rw [hb] at c4
            have HB := Lib.hid hb
            have EK : Hid (t.at_ = 2 ∨ t.at_ = 3 ∨ t.at_ = 4 ∨ t.at_ = 5) := by show _ ∨ _; omega
            clear ek hb
            go_wp2
            go_ret2
            exact wpost_none (by rw [bytes_len]; exact hlong) (by rw [HA.out (.inl HK.out)]; exact told_open EK.out) (out_below (ho))
        · rw [ek] at c0
          cases hb : t.bad with
          | true =>
            rw [hb] at c4
            have HB := Lib.hid hb
            have EK := Lib.hid ek
            clear ek hb
            go_wp2
            go_ret2
            exact wpost_none (by rw [bytes_len]; exact hlong) (by rw [HA.out (.inl HK.out)]; exact told_bad HB.out) (out_below (ho))
          | false =>
            rw [hb] at c4
            have HB := Lib.hid hb
            have EK : Hid (t.at_ = 0 ∨ t.at_ = 6 ∨ t.at_ = 7) := by show _ ∨ _; omega
            clear ek hb
            obtain ⟨vw, vws, hA⟩ := hr
            have c2 := cell_whole hA.heap 2
            simp only [List.getElem?_toArray, List.getElem?_cons_succ, List.getElem?_cons_zero] at c2
            obtain ⟨a2, d2, rfl⟩ := hA.words.form
            go_wp2
            go_ret2
            exact wpost_some (by rw [bytes_len]; exact hlong) (by rw [HA.out (.inl HK.out), told_done HB.out EK.out]) (Own.down hA.words (by omega)) (out_below ho)
        · rw [ek] at c0
          cases hb : t.bad with
          | true =>
            rw [hb] at c4
            have HB := Lib.hid hb
            have EK := Lib.hid ek
            clear ek hb
            go_wp2
            go_ret2
            exact wpost_none (by rw [bytes_len]; exact hlong) (by rw [HA.out (.inl HK.out)]; exact told_bad HB.out) (out_below (ho))
          | false =>
            rw [hb] at c4
            have HB := Lib.hid hb
            have EK : Hid (t.at_ = 0 ∨ t.at_ = 6 ∨ t.at_ = 7) := by show _ ∨ _; omega
            clear ek hb
            obtain ⟨vw, vws, hA⟩ := hr
            have c2 := cell_whole hA.heap 2
            simp only [List.getElem?_toArray, List.getElem?_cons_succ, List.getElem?_cons_zero] at c2
            obtain ⟨a2, d2, rfl⟩ := hA.words.form
            go_wp2
            go_ret2
            exact wpost_some (by rw [bytes_len]; exact hlong) (by rw [HA.out (.inl HK.out), told_done HB.out EK.out]) (Own.down hA.words (by omega)) (out_below ho)

end Go.Proofs.YtheflheeaiopfaaDoor
