/- The shell's Words: what it tells of every line. -/
import Derived.Test.YtheflheeaiopfaaDoorShWalk3
import Derived.Test.YtheflheeaiopfaaDoorShPlain2
import Derived.Test.YtheflheeaiopfaaDoorShelf
import Derived.Deep.LoopGhost
import Derived.WalkMore
namespace Go.Proofs.YtheflheeaiopfaaDoor
open Go.RowKit Vl
set_option linter.unusedVariables false

theorem own_iterAt {w : World} {B : Nat} {e : TypeId} {v : Value} {n : Nat} {xs : List Value} (h : Own w B e v n xs) {k : Nat} {s : ByteArray} {pos : Nat} (hk : w.heap[k]? = some (.stringIter s pos)) (pos' : Nat) : Own (w.iterAt k s pos') B e v n xs := by
  refine h.keep fun j hj => Lib.iterAt_other w k j s pos' ?_
  obtain ⟨_, _, cur, hcur⟩ := h.block hj
  rintro rfl
  rw [hk] at hcur
  cases hcur

theorem sh_iterAt {w : World} {b B : Nat} {t : W.RS} (h : Sh w b B t) {k : Nat} {s : ByteArray} {pos : Nat} (hk : w.heap[k]? = some (.stringIter s pos)) (pos' : Nat) : Sh (w.iterAt k s pos') b B t := by
  obtain ⟨vw, vws, h⟩ := h
  refine ⟨vw, vws, h.lt, by rw [Lib.iterAt_size]; exact h.le, ?_, own_iterAt h.word hk _, own_iterAt h.words hk _⟩
  rw [Lib.iterAt_other w k b s pos' ?_]
  · exact h.heap
  · rintro rfl
    have := h.heap
    rw [hk] at this
    cases this

theorem sh_below {w w' : World} {b B : Nat} {t : W.RS} (h : Sh w b B t) (hb : Below w.heap.size w w') : Sh w' b B t := by
  obtain ⟨vw, vws, h⟩ := h
  have hl := lt_whole h.heap
  exact ⟨vw, vws, h.lt, Nat.le_trans h.le hb.size, (hb.block _ hl).trans h.heap, h.word.keep fun k hk => hb.block k (h.word.block hk).2.1, h.words.keep fun k hk => hb.block k (h.words.block hk).2.1⟩

/-- Ahead of a round. -/
def Rel (s : ByteArray) (w : World) (k : Nat) (wr : World) : Prop :=
  ∃ pos t, pos ≤ s.size ∧ k = s.size - pos ∧ W.run ((bytes s).take pos) W.init = t ∧ t.bad = false ∧ t.at_ ≤ 6 ∧ Sh wr w.heap.size (w.heap.size + 2) t ∧
    wr.heap[w.heap.size + 1]? = some (.stringIter s pos) ∧ Below w.heap.size w wr

theorem rel_start (s : ByteArray) (w : World) (o : Obj) (ho : o = .cells #[.int .i64 0, .slice none 0 0, .slice none 0 0, .int .i64 0] 40 (0, 0)) :
    Rel s w s.size ((w.alloc o).iter s 0) := by
  subst ho
  refine ⟨0, W.init, by omega, by omega, rfl, rfl, by decide, ⟨_, _, by omega, ?_, ?_, Own.nil _ _ _, Own.nil _ _ _⟩, ?_, ?_⟩
  · show _ ≤ ((w.alloc _).alloc _).heap.size
    rw [size_alloc, size_alloc]; omega
  · exact alloc_whole (heap_alloc_new w _)
  · have := heap_alloc_new (w.alloc (.cells #[.int .i64 0, .slice none 0 0, .slice none 0 0, .int .i64 0] 40 (0, 0))) (.stringIter s 0)
    rw [size_alloc] at this
    exact this
  · exact ((Below.refl w.heap.size w).alloc (Nat.le_refl _) _).alloc (by rw [size_alloc]; omega) _

theorem rel_next {s : ByteArray} {w w2 w3 : World} {pos n : Nat} {t' : W.RS} (hle : pos + n ≤ s.size) (h : W.run ((bytes s).take (pos + n)) W.init = t' ∧ t'.bad = false ∧ t'.at_ ≤ 6)
    (hS : Sh w3 w.heap.size (w.heap.size + 2) t') (ho : Out w.heap.size (w.heap.size + 2) w2 w3) (hit : w2.heap[w.heap.size + 1]? = some (.stringIter s (pos + n))) (hb : Below w.heap.size w w2) :
    Rel s w (s.size - (pos + n)) w3 :=
  ⟨pos + n, t', hle, rfl, h.1, h.2.1, h.2.2, hS, (ho.block _ (by omega) (by omega)).trans hit, hb.trans (ho.below (Nat.le_refl _) (by omega))⟩

theorem sign0q {t : W.RS} {r : Int} {bs : List UInt8} (h : t.at_ = 0) (hr : r = 34) : W.sign t r bs = some { t with at_ := 2 } := by unfold W.sign; rw [if_pos h, if_pos hr]
theorem sign0b {t : W.RS} {r : Int} {bs : List UInt8} (h : t.at_ = 0) (hr : r ≠ 34) (hb : W.blankR r = true) : W.sign t r bs = some t := by unfold W.sign; rw [if_pos h, if_neg hr, if_pos hb]
theorem sign0x {t : W.RS} {r : Int} {bs : List UInt8} (h : t.at_ = 0) (hr : r ≠ 34) (hb : W.blankR r = false) : W.sign t r bs = if W.barredR r || r == 34 || r == 92 then none else some (W.RS.put { t with at_ := 1 } bs) := by
  unfold W.sign W.inBare; rw [if_pos h, if_neg hr, hb]; rfl
theorem sign1b {t : W.RS} {r : Int} {bs : List UInt8} (h : t.at_ = 1) (hb : W.blankR r = true) : W.sign t r bs = some { t.ends with at_ := 0 } := by unfold W.sign W.inBare; rw [if_neg (by omega), if_pos h, if_pos hb]
theorem sign1x {t : W.RS} {r : Int} {bs : List UInt8} (h : t.at_ = 1) (hb : W.blankR r = false) : W.sign t r bs = if W.barredR r || r == 34 || r == 92 then none else some (t.put bs) := by
  unfold W.sign W.inBare; rw [if_neg (by omega), if_pos h, hb]; rfl
theorem sign6b {t : W.RS} {r : Int} {bs : List UInt8} (h : t.at_ = 6) (hb : W.blankR r = true) : W.sign t r bs = some { t with at_ := 0 } := by unfold W.sign; rw [if_neg (by omega), if_neg (by omega), if_pos h, if_pos hb]
theorem sign6x {t : W.RS} {r : Int} {bs : List UInt8} (h : t.at_ = 6) (hb : W.blankR r = false) : W.sign t r bs = none := by unfold W.sign; rw [if_neg (by omega), if_neg (by omega), if_pos h, hb]; rfl
theorem signq {t : W.RS} {r : Int} {bs : List UInt8} (h : t.at_ = 2 ∨ t.at_ = 3 ∨ t.at_ = 4 ∨ t.at_ = 5) : W.sign t r bs = W.inQ t r bs := by unfold W.sign; rw [if_neg (by omega), if_neg (by omega), if_neg (by omega)]

/-- The decoder, at the tail of a line. -/
theorem dec_walk (s : ByteArray) (pos : Nat) (hp : pos < s.size) (w : World) (hT : Lib.Utf8Tabs 0 1 w) :
    Calls Tryd.prog 13 #[.string (s.extract pos s.size)] w fun e w' => e = .returned (.tuple #[.int .i32 (Utf8.decode s pos).1, .int .i64 (Utf8.decode s pos).2]) ∧ Below w.heap.size w w' := by
  have hd : Lib.decodeGo (s.extract pos s.size) = Utf8.decode s pos := by
    unfold Lib.decodeGo
    rw [Lib.tail_size, if_neg (by omega), Lib.tail_decode, Nat.add_zero]
  have := Tryd.utf8_DecodeRuneInString (s.extract pos s.size) w hT
  rw [hd] at this
  exact this

/-- What one step is, for the walk. -/
def Step (s : ByteArray) (pos n : Nat) (t : W.RS) (o : Option W.RS) : Prop :=
  match o with
  | none => W.wordsOf (bytes s) = none
  | some t' => W.run ((bytes s).take (pos + n)) W.init = t' ∧ t'.bad = false ∧ t'.at_ ≤ 6

theorem step_of (s : ByteArray) (pos : Nat) (h : pos < s.size) (t : W.RS) (ht : W.run ((bytes s).take pos) W.init = t) (hb : t.bad = false) (ha : t.at_ ≤ 6) :
    (t.at_ = 0 ∧ (Utf8.decode s pos).1 = 35 ∧ W.wordsOf (bytes s) = some t.words) ∨
    (¬ (t.at_ = 0 ∧ (((Utf8.decode s pos).1 : Int)) = 35) ∧ Step s pos (Utf8.decode s pos).2 t (W.sign t (Utf8.decode s pos).1 (bytes (s.extract pos (pos + (Utf8.decode s pos).2))))) := by
  rcases W.step s pos h t ht hb ha with h1 | ⟨h1, h2⟩
  · exact .inl h1
  · refine .inr ⟨by intro e; exact h1 ⟨e.1, by have := e.2; omega⟩, ?_⟩
    unfold Step
    exact h2

theorem words_bytes_len (s : ByteArray) (a b : Nat) (h : b ≤ s.size) (hab : a ≤ b) : (s.extract a b).size = b - a := by
  have := W.own_eq s a (b - a)
  rw [show a + (b - a) = b by omega] at this
  have h2 := congrArg List.length this
  rw [W.bytesOf_len, List.length_take, List.length_drop, W.bytesOf_len] at h2
  omega

theorem shat_set {w : World} {b B : Nat} {s : W.RS} {vw vws : Value} (h : ShAt w b B s vw vws) (k : Nat) : ShAt (w.setCell ⟨b, 0, none⟩ (.int .i64 (k : Int))) b B { s with at_ := k } vw vws :=
  ⟨h.lt, le_set h.le _ _, by rw [set_whole (i := 0) h.heap]; rfl, h.word.setCell h.lt, h.words.setCell h.lt⟩

theorem told_done2 {s : W.RS} (hb : s.bad = false) (h : s.at_ = 0 ∨ s.at_ = 6) : W.told s = some s.words := told_done hb (by omega)

theorem cut_own (s : ByteArray) (pos n : Nat) (h : pos + n ≤ s.size) (w : World) : (Instr.slice 9 (.string s) (some (.int .i64 (pos : Int))) (some (.int .i64 ((pos : Int) + (n : Int)))) none).run Tryd.prog w = .ok (.string (s.extract pos (pos + n))) w := by
  have := run_slice_string (P := Tryd.prog) w 9 s .i64 .i64 (pos : Int) ((pos : Int) + (n : Int)) Tryd.underlying9 (by omega) (by omega) (by omega)
  rw [this, show ((pos : Int)).toNat = pos by omega, show ((pos : Int) + (n : Int)).toNat = pos + n by omega]

theorem round_facts {w wr w2 : World} {b B k pos : Nat} {s : ByteArray} {t : W.RS} (hS : Sh wr b B t) (hit : wr.heap[k]? = some (.stringIter s pos)) (hbw : Below w.heap.size w wr) (hb : Below wr.heap.size wr w2) :
    Sh w2 b B t ∧ w2.heap[k]? = some (.stringIter s pos) ∧ Below w.heap.size w w2 :=
  ⟨sh_below hS hb, (hb.block _ (lt_whole hit)).trans hit, hbw.trans ⟨hb.os, hb.tape, hb.output, hb.size, fun i hi => hb.block i (Nat.lt_of_lt_of_le hi hbw.size)⟩⟩

set_option maxRecDepth 1000000 in
set_option maxHeartbeats 2000000 in
theorem words_walk (s : ByteArray) (w : World) (hT : Lib.Utf8Tabs 0 1 w) (hs : s.size ≤ maxLen) : Calls Tryd.prog 7 #[.string s] w (WPost (bytes s) w) := by
  unfold maxLen at hs
  by_cases hlong : 65536 < s.size
  · have hw := wpost_long (l := bytes s) (by rw [bytes_len]; exact hlong) w
    go_enter Tryd.func7, Tryd.ntmps7
    go_wp2
    go_step3
    go_wp2
    rw [Exit.noGoto_ret]
    go_ret2
    exact hw
  have hT' : Hid (Lib.Utf8Tabs 0 1 w) := hT
  clear hT
  go_enter Tryd.func7, Tryd.ntmps7
  go_wp2
  go_step3
  go_wp2
  go_step3
  go_wp2
  go_loopg [] (s.size) (fun k wr => Rel s w k wr)
  case atStart => exact rel_start s w _ rfl
  case round =>
    obtain ⟨pos, t, hpos, rfl, ht, hbad, hat, hS, hit, hbw⟩ := hrel
    have hf := W.Fit.run ((bytes s).take pos) W.Fit.init
    have hlen : ((bytes s).take pos).length = pos := by rw [List.length_take, bytes_len]; omega
    rw [hlen, ht] at hf
    obtain ⟨q1, q2, q3, q4, q5⟩ := hf
    rw [Nat.zero_add] at q1 q2
    by_cases hp : pos < s.size
    · have hnx : ∀ ty, (Instr.next (.pointer (some ⟨w.heap.size + 1, 0, none⟩)) true ty).run Tryd.prog wr = _ := fun ty => Lib.run_next_any_at wr (w.heap.size + 1) s pos ty hit hp
      obtain ⟨d1, d2, _⟩ := W.decode_at_place s pos hp
      have hstep := Lib.hid (step_of s pos hp t ht hbad hat)
      have hS1 := sh_iterAt hS hit (pos + (Utf8.decode s pos).2)
      have hit1 := Lib.iterAt_heap wr (w.heap.size + 1) s pos (pos + (Utf8.decode s pos).2) hit
      have hbw1 := Lib.below_iterAt hbw (k := w.heap.size + 1) (by omega) s (pos + (Utf8.decode s pos).2)
      have hdec := Lib.hid <| dec_walk s pos hp (wr.iterAt (w.heap.size + 1) s (pos + (Utf8.decode s pos).2)) (Utf8Tabs_below hT'.out hbw1)
      have hr : (Utf8.decode s pos).1 ≤ 2147483647 := decode_le s pos
      have hown : (s.extract pos (pos + (Utf8.decode s pos).2)).size = (Utf8.decode s pos).2 := by rw [words_bytes_len s pos (pos + (Utf8.decode s pos).2) d2 (by omega)]; omega
      generalize hn : (Utf8.decode s pos).2 = n at *
      generalize hrr : (Utf8.decode s pos).1 = r at *
      have HT := Lib.hid ht
      have HS1 := Lib.hid hS1
      have HI1 := Lib.hid hit1
      have HB1 := Lib.hid hbw1
      have HOWN := Lib.hid hown
      have HQ5 := Lib.hid q5
      clear ht hS1 hit1 hbw1 hS hit hbw hown q5 hlen
      go_wp2_with fail
      refine hdec.out.mono ?_
      rintro e w2 ⟨rfl, hb2⟩
      obtain ⟨hS2, hit2, hbw2⟩ := round_facts HS1.out HI1.out HB1.out hb2
      clear hb2 HS1 HI1 HB1 hdec
      have hcut := cut_own s pos n d2 w2
      have HS := Lib.hid hS2
      have HI := Lib.hid hit2
      have HB := Lib.hid hbw2
      clear hit2 hbw2
      have f0 := (sh_cells HS.out).2.2 0
      have f1 := (sh_cells HS.out).2.2 1
      rcases hstep.out with ⟨e1, e2, e3⟩ | ⟨e1, e2⟩
      · -- a comment
        have c0 := sh_at HS.out e1
        have E3 := Lib.hid e3
        obtain ⟨vw, vws, hA⟩ := hS2
        have c2 := cell_whole hA.heap 2
        simp only [List.getElem?_toArray, List.getElem?_cons_succ, List.getElem?_cons_zero] at c2
        obtain ⟨a2, k2, rfl⟩ := hA.words.form
        have HW := Lib.hid hA.words
        clear e1 e3 hA hstep
        subst e2
        go_wp2
        rw [Exit.noGoto_ret]
        go_ret2
        exact wpost_some (by rw [bytes_len]; exact hlong) E3.out (Own.down HW.out (by omega)) HB.out
      rcases (by omega : t.at_ = 0 ∨ t.at_ = 1 ∨ t.at_ = 6 ∨ (t.at_ = 2 ∨ t.at_ = 3 ∨ t.at_ = 4 ∨ t.at_ = 5)) with h0 | h1 | h6 | hq
      · have c0 := sh_at HS.out h0
        have n35 : ((r : Int) == 35) = false := by
          have : ¬ (r : Int) = 35 := fun e => e1 ⟨h0, e⟩
          simpa using this
        clear e1
        by_cases r34 : r = 34
        · rw [sign0q h0 (by omega)] at e2
          have E := Lib.hid e2
          clear e2 hstep hS2 h0
          subst r34
          go_wp2
          go_roundg (s.size - (pos + n))
          case rel => exact rel_next d2 E.out (sh_set HS.out 0 _ rfl rfl (fun _ _ => rfl)) (shout_set (Out.refl _ _ _) _ _) HI.out HB.out
          case measure => omega
        have r34' : ¬ (r : Int) = 34 := by omega
        have n34 : ((r : Int) == 34) = false := by simpa using r34'
        cases hbl : W.blankR (r : Int) with
        | true =>
          rw [sign0b h0 r34' hbl] at e2
          have E := Lib.hid e2
          have HBL := Lib.hid hbl
          clear e2 hstep hS2 h0 hbl r34 r34'
          go_wp2_with (go_at_call 14; refine (blank_is HBL.out _).mono ?_; rintro e w' ⟨rfl, rfl⟩)
          go_roundg (s.size - (pos + n))
          case rel => exact rel_next d2 E.out HS.out (Out.refl _ _ _) HI.out HB.out
          case measure => omega
        | false =>
          rw [sign0x h0 r34' hbl] at e2
          have HBL := Lib.hid hbl
          cases hba : W.barredR (r : Int) with
          | true =>
            rw [hba] at e2
            have E := Lib.hid e2
            have HBA := Lib.hid hba
            clear e2 hstep hS2 h0 hbl r34 r34'
            clear hba
            go_wp2_with (first | (go_at_call 14; refine (blank_is HBL.out _).mono ?_; rintro e w' ⟨rfl, rfl⟩) | (go_at_call 16; refine (barred_is HBA.out _).mono ?_; rintro e w' ⟨rfl, rfl⟩))
            rw [Exit.noGoto_ret]
            go_ret2
            exact wpost_none (by rw [bytes_len]; exact hlong) E.out (HB.out.setCell (Nat.le_refl _) _)
          | false =>
            by_cases r92 : r = 92
            · rw [hba, n34, show ((r : Int) == 92) = true by rw [r92]; rfl] at e2
              have E := Lib.hid e2
              have HBA := Lib.hid hba
              clear e2 hstep hS2 h0 hbl r34 r34'
              clear hba
              subst r92
              go_wp2_with (first | (go_at_call 14; refine (blank_is HBL.out _).mono ?_; rintro e w' ⟨rfl, rfl⟩) | (go_at_call 16; refine (barred_is HBA.out _).mono ?_; rintro e w' ⟨rfl, rfl⟩))
              rw [Exit.noGoto_ret]
              go_ret2
              exact wpost_none (by rw [bytes_len]; exact hlong) E.out (HB.out.setCell (Nat.le_refl _) _)
            have r92' : ¬ (r : Int) = 92 := by omega
            have n92 : ((r : Int) == 92) = false := by simpa using r92'
            rw [hba, n34, n92] at e2
            have E := Lib.hid e2
            have HBA := Lib.hid hba
            clear e2 hstep hS2 h0 hbl r34 r34'
            clear hba r92 r92'
            obtain ⟨i0, hi, hz0, hz1, hz2⟩ := info_parts info5
            obtain ⟨aw, cw, vws, hA, c1⟩ := sh_open HS.out
            have HA := Lib.hid hA
            have hl : t.word.length + (s.extract pos (pos + n)).size < 1000000 := by rw [HOWN.out]; omega
            clear hA
            go_wp2_with fail
            refine (blank_is HBL.out _).mono ?_
            rintro e w' ⟨rfl, rfl⟩
            go_wp2_with fail
            refine (blank_is HBL.out _).mono ?_
            rintro e w' ⟨rfl, rfl⟩
            go_wp2_with fail
            refine (barred_is HBA.out _).mono ?_
            rintro e w' ⟨rfl, rfl⟩
            go_wp2_with (at_builtin; refine Lib.wpList_append_own_string _ rfl _ _ 33 9 rfl (w.heap.size + 2) 5 i0 Tryd.underlying33 Tryd.underlying9 hi hz0 hz1 hz2 _ t.word.length _ rfl (shat_set HA.out 1).word (s.extract pos (pos + n)) rfl (by unfold maxLen; omega) (by omega) (shat_set HA.out 1).le ?_)
            intro v' w1 g1 hg _
            have g1' : w1.ownsRow (w.heap.size + 2) 5 1 v' (t.word.length + (bytes (s.extract pos (pos + n))).length) (bcells t.word ++ bcells (bytes (s.extract pos (pos + n)))) := by
              rw [bytes_len, HOWN.out]
              rw [strCells_eq] at g1
              exact g1
            obtain ⟨⟨a1, k1, rfl⟩, ⟨u1, c1'⟩, f', _, hr3, ho3, _, _, _⟩ := sh_push (shat_set HA.out 1) g1' hg
            have f1' := f' 1
            have HR := Lib.hid hr3
            have HO := Lib.hid ho3
            clear f' c1 c0 f0 f1 hr3 ho3
            go_wp2
            go_roundg (s.size - (pos + n))
            case rel => exact rel_next d2 E.out HR.out ((shout_set (Out.refl _ _ _) 0 _).trans HO.out) HI.out HB.out
            case measure => omega
      · have c0 := sh_at HS.out h1
        clear e1
        cases hbl : W.blankR (r : Int) with
        | true =>
          rw [sign1b h1 hbl] at e2
          have E := Lib.hid e2
          have HBL := Lib.hid hbl
          clear e2 hstep hS2 h1 hbl
          go_wp2_with (first | (go_at_call 14; refine (blank_is HBL.out _).mono ?_; rintro e w' ⟨rfl, rfl⟩) | (go_at_call 15; refine (end_walk w.heap.size (w.heap.size + 2) t 0 _ HS.out (by omega) (by omega)).mono ?_; rintro e w3 ⟨rfl, hS3, hO3⟩))
          have HS3 := Lib.hid hS3
          have HO3 := Lib.hid hO3
          go_roundg (s.size - (pos + n))
          case rel => exact rel_next d2 E.out HS3.out HO3.out HI.out HB.out
          case measure => omega
        | false =>
          rw [sign1x h1 hbl] at e2
          have HBL := Lib.hid hbl
          cases hba : W.barredR (r : Int) with
          | true =>
            rw [hba] at e2
            have E := Lib.hid e2
            have HBA := Lib.hid hba
            clear e2 hstep hS2 h1 hbl
            clear hba
            go_wp2_with (first | (go_at_call 14; refine (blank_is HBL.out _).mono ?_; rintro e w' ⟨rfl, rfl⟩) | (go_at_call 16; refine (barred_is HBA.out _).mono ?_; rintro e w' ⟨rfl, rfl⟩))
            rw [Exit.noGoto_ret]
            go_ret2
            exact wpost_none (by rw [bytes_len]; exact hlong) E.out HB.out
          | false =>
            by_cases r34 : r = 34
            · rw [hba, show ((r : Int) == 34) = true by rw [r34]; rfl] at e2
              have E := Lib.hid e2
              have HBA := Lib.hid hba
              clear e2 hstep hS2 h1 hbl
              clear hba
              subst r34
              go_wp2_with (first | (go_at_call 14; refine (blank_is HBL.out _).mono ?_; rintro e w' ⟨rfl, rfl⟩) | (go_at_call 16; refine (barred_is HBA.out _).mono ?_; rintro e w' ⟨rfl, rfl⟩))
              rw [Exit.noGoto_ret]
              go_ret2
              exact wpost_none (by rw [bytes_len]; exact hlong) E.out HB.out
            have r34' : ¬ (r : Int) = 34 := by omega
            have n34 : ((r : Int) == 34) = false := by simpa using r34'
            clear r34 r34'
            by_cases r92 : r = 92
            · rw [hba, n34, show ((r : Int) == 92) = true by rw [r92]; rfl] at e2
              have E := Lib.hid e2
              have HBA := Lib.hid hba
              clear e2 hstep hS2 h1 hbl
              clear hba
              subst r92
              go_wp2_with (first | (go_at_call 14; refine (blank_is HBL.out _).mono ?_; rintro e w' ⟨rfl, rfl⟩) | (go_at_call 16; refine (barred_is HBA.out _).mono ?_; rintro e w' ⟨rfl, rfl⟩))
              rw [Exit.noGoto_ret]
              go_ret2
              exact wpost_none (by rw [bytes_len]; exact hlong) E.out HB.out
            have r92' : ¬ (r : Int) = 92 := by omega
            have n92 : ((r : Int) == 92) = false := by simpa using r92'
            rw [hba, n34, n92] at e2
            have E := Lib.hid e2
            have HBA := Lib.hid hba
            clear e2 hstep hS2 h1 hbl
            clear hba r92 r92'
            obtain ⟨i0, hi, hz0, hz1, hz2⟩ := info_parts info5
            obtain ⟨aw, cw, vws, hA, c1⟩ := sh_open HS.out
            have HA := Lib.hid hA
            have hl : t.word.length + (s.extract pos (pos + n)).size < 1000000 := by rw [HOWN.out]; omega
            clear hA
            go_wp2_with fail
            refine (blank_is HBL.out _).mono ?_
            rintro e w' ⟨rfl, rfl⟩
            go_wp2_with fail
            refine (barred_is HBA.out _).mono ?_
            rintro e w' ⟨rfl, rfl⟩
            go_wp2_with (at_builtin; refine Lib.wpList_append_own_string _ rfl _ _ 33 9 rfl (w.heap.size + 2) 5 i0 Tryd.underlying33 Tryd.underlying9 hi hz0 hz1 hz2 _ t.word.length _ rfl HA.out.word (s.extract pos (pos + n)) rfl (by unfold maxLen; omega) (by omega) HA.out.le ?_)
            intro v' w1 g1 hg _
            have g1' : w1.ownsRow (w.heap.size + 2) 5 1 v' (t.word.length + (bytes (s.extract pos (pos + n))).length) (bcells t.word ++ bcells (bytes (s.extract pos (pos + n)))) := by
              rw [bytes_len, HOWN.out]
              rw [strCells_eq] at g1
              exact g1
            obtain ⟨⟨a1, k1, rfl⟩, ⟨u1, c1'⟩, f', _, hr3, ho3, _, _, _⟩ := sh_push HA.out g1' hg
            have f1' := f' 1
            have HR := Lib.hid hr3
            have HO := Lib.hid ho3
            clear f' c1 c0 f0 f1 hr3 ho3
            go_wp2
            go_roundg (s.size - (pos + n))
            case rel => exact rel_next d2 E.out HR.out HO.out HI.out HB.out
            case measure => omega
      · have c0 := sh_at HS.out h6
        clear e1
        cases hbl : W.blankR (r : Int) with
        | true =>
          rw [sign6b h6 hbl] at e2
          have E := Lib.hid e2
          have HBL := Lib.hid hbl
          clear e2 hstep hS2 h6 hbl
          go_wp2_with (go_at_call 14; refine (blank_is HBL.out _).mono ?_; rintro e w' ⟨rfl, rfl⟩)
          go_roundg (s.size - (pos + n))
          case rel => exact rel_next d2 E.out (sh_set HS.out 0 _ rfl rfl (fun _ _ => rfl)) (shout_set (Out.refl _ _ _) _ _) HI.out HB.out
          case measure => omega
        | false =>
          rw [sign6x h6 hbl] at e2
          have E := Lib.hid e2
          have HBL := Lib.hid hbl
          clear e2 hstep hS2 h6 hbl
          go_wp2_with (go_at_call 14; refine (blank_is HBL.out _).mono ?_; rintro e w' ⟨rfl, rfl⟩)
          rw [Exit.noGoto_ret]
          go_ret2
          exact wpost_none (by rw [bytes_len]; exact hlong) E.out HB.out
      · rw [signq hq] at e2
        have hinq := inQ_walk w.heap.size (w.heap.size + 2) t r (s.extract pos (pos + n)) w2 HS.out (by rw [HOWN.out]; omega) (by omega) (by omega) (by omega) q3.2 (fun e => HQ5.out e hbad)
        have HQ := Lib.hid hinq
        have E := Lib.hid e2
        generalize W.inQ t (r : Int) (bytes (s.extract pos (pos + n))) = o at *
        clear e2 hstep hS2 hinq e1
        have m0 : ((t.at_ : Int) == 0) = false := by simp; omega
        have m1 : ((t.at_ : Int) == 1) = false := by simp; omega
        have m6 : ((t.at_ : Int) == 6) = false := by simp; omega
        have c0 := (sh_cells HS.out).1
        have HQQ := Lib.hid hq
        clear hq
        go_wp2_with fail
        refine HQ.out.mono ?_
        intro e w3 hpost
        obtain ⟨hO3, hm⟩ := hpost
        have HO3 := Lib.hid hO3
        cases o with
        | none =>
          have he : e = .returned (.bool false) := hm
          subst he
          clear hm hO3
          go_wp2
          rw [Exit.noGoto_ret]
          go_ret2
          exact wpost_none (by rw [bytes_len]; exact hlong) E.out (HB.out.trans (HO3.out.below (Nat.le_refl _) (by omega)))
        | some t' =>
          obtain ⟨rfl, hS3⟩ := (hm : e = .returned (.bool true) ∧ _)
          have HS3 := Lib.hid hS3
          clear hO3 hS3
          go_wp2
          go_roundg (s.size - (pos + n))
          case rel => exact rel_next d2 E.out HS3.out HO3.out HI.out HB.out
          case measure => omega
    · have hnx : ∀ ty, (Instr.next (.pointer (some ⟨w.heap.size + 1, 0, none⟩)) true ty).run Tryd.prog wr = _ := fun ty => Lib.run_next_end_at wr (w.heap.size + 1) s pos ty hit hp
      have hpe : pos = s.size := by omega
      have hw : W.wordsOf (bytes s) = W.told t := by
        unfold W.wordsOf
        rw [← ht, List.take_of_length_le (by rw [bytes_len]; omega)]
      have HW := Lib.hid hw
      have HS := Lib.hid hS
      have HB := Lib.hid hbw
      have HBAD := Lib.hid hbad
      have f0 := (sh_cells HS.out).2.2 0
      clear ht hw hbw hit hlen q5 hbad
      rcases (by omega : (t.at_ = 0 ∨ t.at_ = 6) ∨ t.at_ = 1 ∨ (t.at_ = 2 ∨ t.at_ = 3 ∨ t.at_ = 4 ∨ t.at_ = 5)) with h0 | h1 | hq
      · have hd := told_done2 HBAD.out h0
        have HD := Lib.hid hd
        clear hd
        obtain ⟨vw, vws, hA⟩ := hS
        have c2 := cell_whole hA.heap 2
        simp only [List.getElem?_toArray, List.getElem?_cons_succ, List.getElem?_cons_zero] at c2
        obtain ⟨a2, k2, rfl⟩ := hA.words.form
        have HWS := Lib.hid hA.words
        clear hA
        rcases h0 with h0 | h0
        · have c0 := sh_at HS.out h0
          clear h0
          go_wp2
          rw [Exit.noGoto_ret]
          go_ret2
          exact wpost_some (by rw [bytes_len]; exact hlong) (HW.out.trans HD.out) (Own.down HWS.out (by omega)) HB.out
        · have c0 := sh_at HS.out h0
          clear h0
          go_wp2
          rw [Exit.noGoto_ret]
          go_ret2
          exact wpost_some (by rw [bytes_len]; exact hlong) (HW.out.trans HD.out) (Own.down HWS.out (by omega)) HB.out
      · have HD := Lib.hid (told_last HBAD.out h1)
        have c0 := sh_at HS.out h1
        clear h1 hS
        go_wp2_with fail
        refine (end_walk w.heap.size (w.heap.size + 2) t 0 _ HS.out (by omega) (by omega)).mono ?_
        rintro e w3 ⟨rfl, hS3, hO3⟩
        have HO3 := Lib.hid hO3
        obtain ⟨vw, vws, hA⟩ := hS3
        have c2 := cell_whole hA.heap 2
        simp only [List.getElem?_toArray, List.getElem?_cons_succ, List.getElem?_cons_zero] at c2
        obtain ⟨a2, k2, rfl⟩ := hA.words.form
        have HWS := Lib.hid hA.words
        clear hA c0 f0 hO3
        go_wp2
        rw [Exit.noGoto_ret]
        go_ret2
        exact wpost_some (by rw [bytes_len]; exact hlong) (HW.out.trans HD.out) (Own.down HWS.out (by omega)) (HB.out.trans (HO3.out.below (Nat.le_refl _) (by omega)))
      · have HD := Lib.hid (told_open hq)
        have m0 : ((t.at_ : Int) == 0) = false := by simp; omega
        have m1 : ((t.at_ : Int) == 1) = false := by simp; omega
        have m6 : ((t.at_ : Int) == 6) = false := by simp; omega
        have c0 := (sh_cells HS.out).1
        clear hq hS
        go_wp2
        rw [Exit.noGoto_ret]
        go_ret2
        exact wpost_none (by rw [bytes_len]; exact hlong) (HW.out.trans HD.out) HB.out
end Go.Proofs.YtheflheeaiopfaaDoor
