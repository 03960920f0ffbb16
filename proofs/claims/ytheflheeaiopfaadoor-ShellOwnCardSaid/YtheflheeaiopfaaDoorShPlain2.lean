/- The signs of a line, one behind another: what Go's decoder tells at a place, and what the machine over bytes makes of the bytes of it. No program in sight. -/
import Derived.Test.YtheflheeaiopfaaDoorShPlain
import Derived.Lib.OthersKept
import Derived.Lib.RuneCountTail
namespace Vl.W
open Go
set_option linter.unusedVariables false

theorem decodeN_high (n b0 b1 b2 b3 : Nat) (h0 : 128 ≤ b0) (hb : b0 < 256) (hn : 1 ≤ n) :
    128 ≤ (Lib.decodeN n b0 b1 b2 b3).1 ∧ 1 ≤ (Lib.decodeN n b0 b1 b2 b3).2 ∧ (Lib.decodeN n b0 b1 b2 b3).2 ≤ n ∧ (Lib.decodeN n b0 b1 b2 b3).2 ≤ 4 ∧
    (2 ≤ (Lib.decodeN n b0 b1 b2 b3).2 → 128 ≤ b1) ∧ (3 ≤ (Lib.decodeN n b0 b1 b2 b3).2 → 128 ≤ b2) ∧ (4 ≤ (Lib.decodeN n b0 b1 b2 b3).2 → 128 ≤ b3) := by
  unfold Lib.decodeN
  repeat' split
  all_goals (simp only; omega)

def bytesOf (s : ByteArray) : List UInt8 := s.data.toList
theorem bytesOf_len (s : ByteArray) : (bytesOf s).length = s.size := Array.length_toList

theorem own_eq (s : ByteArray) (a n : Nat) : bytesOf (s.extract a (a + n)) = ((bytesOf s).drop a).take n := by
  unfold bytesOf
  rw [Lib.extract_data]
  congr 1; omega

theorem get_eq (s : ByteArray) (k : Nat) (h : k < s.size) : (bytesOf s)[k]? = some (s.get! k) := by
  have := Lib.getD_get!' s k
  have hk : k < (bytesOf s).length := by rw [bytesOf_len]; exact h
  rw [List.getElem?_eq_getElem hk]
  rw [← this]
  show some _ = some (List.getD (bytesOf s) k 0)
  rw [List.getD_eq_getElem?_getD, List.getElem?_eq_getElem hk]; rfl

/-- What the decoder tells at a place. -/
theorem decode_at_place (s : ByteArray) (pos : Nat) (h : pos < s.size) :
    1 ≤ (Utf8.decode s pos).2 ∧ pos + (Utf8.decode s pos).2 ≤ s.size ∧
    ((∃ c : UInt8, Utf8.decode s pos = (c.toNat, 1) ∧ bytesOf (s.extract pos (pos + 1)) = [c]) ∨
     (128 ≤ (Utf8.decode s pos).1 ∧ ∀ x ∈ bytesOf (s.extract pos (pos + (Utf8.decode s pos).2)), 128 ≤ x.toNat)) := by
  have hg0 := get_eq s pos h
  by_cases ha : (s.get! pos).toNat < 128
  · have hd : Utf8.decode s pos = ((s.get! pos).toNat, 1) := by
      rw [Lib.decode_at]; unfold Lib.decodeN; rw [if_pos ha]
    rw [hd]
    refine ⟨Nat.le_refl _, h, .inl ⟨s.get! pos, rfl, ?_⟩⟩
    rw [own_eq]
    have hk : pos < (bytesOf s).length := by rw [bytesOf_len]; exact h
    rw [List.drop_eq_getElem_cons hk]
    rw [List.getElem?_eq_getElem hk] at hg0
    rw [Option.some.inj hg0]
    rfl
  · have hD := decodeN_high (s.size - pos) (s.get! pos).toNat (s.get! (pos + 1)).toNat (s.get! (pos + 2)).toNat (s.get! (pos + 3)).toNat (by omega) (UInt8.toNat_lt _) (by omega)
    rw [← Lib.decode_at] at hD
    obtain ⟨h1, h2, h3, h4, h5, h6, h7⟩ := hD
    refine ⟨h2, by omega, .inr ⟨h1, ?_⟩⟩
    intro x hx
    rw [own_eq] at hx
    obtain ⟨j, hj, hx⟩ := List.mem_iff_getElem.1 hx
    rw [List.length_take, List.length_drop, bytesOf_len] at hj
    have hjx : (bytesOf s)[pos + j]? = some x := by
      rw [← hx]
      rw [List.getElem_take, List.getElem_drop]
      rw [List.getElem?_eq_getElem]
    rw [get_eq s _ (by omega)] at hjx
    have hxx := Option.some.inj hjx
    rw [← hxx]
    rcases (by omega : j = 0 ∨ j = 1 ∨ j = 2 ∨ j = 3) with rfl | rfl | rfl | rfl
    · simpa using ha
    · exact h5 (by omega)
    · exact h6 (by omega)
    · exact h7 (by omega)

theorem sign_keeps {s s' : RS} {r : Int} {bs : List UInt8} (ha : s.at_ ≤ 6) (h : sign s r bs = some s') : s'.bad = s.bad ∧ s'.at_ ≤ 6 := by
  unfold sign inBare inQ at h
  repeat' split at h
  all_goals first
    | (cases h; done)
    | (have := Option.some.inj h; subst this; refine ⟨rfl, ?_⟩; first | omega | exact ha | (show (_ : Nat) ≤ 6; simp only [RS.put]; omega) | (show (_ : Nat) ≤ 6; decide))

/-- One step of the reading: a comment's begin, a sign that may stand there, or one that may not. -/
theorem step (s : ByteArray) (pos : Nat) (h : pos < s.size) (t : RS) (ht : run ((bytesOf s).take pos) init = t) (hb : t.bad = false) (ha : t.at_ ≤ 6) :
    (t.at_ = 0 ∧ (Utf8.decode s pos).1 = 35 ∧ wordsOf (bytesOf s) = some t.words) ∨
    (¬ (t.at_ = 0 ∧ (Utf8.decode s pos).1 = 35) ∧
      match sign t (Utf8.decode s pos).1 (bytesOf (s.extract pos (pos + (Utf8.decode s pos).2))) with
      | none => wordsOf (bytesOf s) = none
      | some t' => run ((bytesOf s).take (pos + (Utf8.decode s pos).2)) init = t' ∧ t'.bad = false ∧ t'.at_ ≤ 6) := by
  obtain ⟨h1, h2, h3⟩ := decode_at_place s pos h
  have hsplit : (bytesOf s) = (bytesOf s).take pos ++ (bytesOf s).drop pos := (List.take_append_drop pos _).symm
  by_cases hcom : t.at_ = 0 ∧ (Utf8.decode s pos).1 = 35
  · left
    refine ⟨hcom.1, hcom.2, ?_⟩
    rcases h3 with ⟨c, hd, ho⟩ | ⟨hd, _⟩
    · have hc : c = 35 := by
        rw [show (35 : UInt8) = UInt8.ofNat 35 from rfl, u8n (by omega)]
        have := hcom.2; rw [hd] at this; exact this
      have hdrop : (bytesOf s).drop pos = c :: (bytesOf s).drop (pos + 1) := by
        rw [own_eq] at ho
        have hk : pos < (bytesOf s).length := by rw [bytesOf_len]; exact h
        rw [List.drop_eq_getElem_cons hk] at ho
        rw [List.take_succ_cons, List.take_zero] at ho
        rw [List.drop_eq_getElem_cons hk, (List.cons.inj ho).1]
      unfold wordsOf
      rw [hsplit, run_append, ht, hdrop]
      show told (if t.bad then t else run _ (t.next c)) = _
      rw [hb]
      have hn : t.next c = { t with at_ := 7 } := by
        subst hc
        rw [next_at, if_pos hcom.1]
        unfold RS.first
        rfl
      simp only [Bool.false_eq_true, if_false]
      rw [hn]
      have hstay : ∀ (l : List UInt8) (u : RS), u.at_ = 7 → u.bad = false → run l u = u := by
        intro l
        induction l with
        | nil => intros; rfl
        | cons x l ih =>
          intro u hu hub
          show (if u.bad then u else run l (u.next x)) = u
          rw [hub]
          have : u.next x = u := by
            rw [next_at, if_neg (by omega), if_neg (by omega), if_neg (by omega), if_neg (by omega), if_neg (by omega), if_neg (by omega), if_neg (by omega)]
          simp only [Bool.false_eq_true, if_false]
          rw [this, ih u hu hub]
      rw [hstay _ { t with at_ := 7 } rfl hb]
      unfold told
      simp [hb]
    · omega
  · right
    refine ⟨hcom, ?_⟩
    have hag : Agrees (sign t (Utf8.decode s pos).1 (bytesOf (s.extract pos (pos + (Utf8.decode s pos).2)))) (run (bytesOf (s.extract pos (pos + (Utf8.decode s pos).2))) t) := by
      rcases h3 with ⟨c, hd, ho⟩ | ⟨hd, hx⟩
      · rw [hd] at hcom ⊢
        rw [ho]
        have hr : run [c] t = t.next c := by show (if t.bad then t else run [] (t.next c)) = _; rw [hb]; rfl
        rw [hr]
        exact sign_byte hb ha (by simpa using hcom)
      · refine sign_high ?_ hx (by omega) hb ha
        intro e
        have := congrArg List.length e
        rw [own_eq, List.length_take, List.length_drop, bytesOf_len] at this
        simp at this
        omega
    have htake : (bytesOf s).take (pos + (Utf8.decode s pos).2) = (bytesOf s).take pos ++ bytesOf (s.extract pos (pos + (Utf8.decode s pos).2)) := by
      rw [own_eq, List.take_add]
    generalize hsg : sign t (Utf8.decode s pos).1 (bytesOf (s.extract pos (pos + (Utf8.decode s pos).2))) = o at *
    cases o with
    | none =>
      show wordsOf (bytesOf s) = none
      have hbad : (run (bytesOf (s.extract pos (pos + (Utf8.decode s pos).2))) t).bad = true := hag
      unfold wordsOf
      rw [← List.take_append_drop (pos + (Utf8.decode s pos).2) (bytesOf s), run_append, htake, run_append, ht, run_bad _ hbad]
      unfold told
      simp [hbad]
    | some t' =>
      have hag' : run (bytesOf (s.extract pos (pos + (Utf8.decode s pos).2))) t = t' := hag
      obtain ⟨k1, k2⟩ := sign_keeps ha hsg
      exact ⟨by rw [htake, run_append, ht, hag'], by rw [k1]; exact hb, k2⟩
end Vl.W
