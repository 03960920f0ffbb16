/- The shell's reader of words (vellum/shell): its signs, its end of a word, what it does within quotes. -/
import Derived.Test.YtheflheeaiopfaaDoorRefWords
import Derived.Test.YtheflheeaiopfaaDoorShPlain
import Derived.Lib.OthersKept
import Derived.Lib.RuneCountTail
namespace Go.Proofs.YtheflheeaiopfaaDoor
open Go.RowKit Vl
set_option linter.unusedVariables false

theorem blank_walk (r : Int) (w : World) : Calls Tryd.prog 14 #[.int .i32 r] w fun e w' => e = .returned (.bool (W.blankR r)) ∧ w' = w := by
  have hR : W.blankR r = ((r == 32) || (r == 9)) := rfl
  cases n1 : r == 32 with
  | true =>
    rw [hR, n1]; clear hR
    go_enter Tryd.func14, Tryd.ntmps14
    go_wp2
    go_ret
    exact ⟨rfl, rfl⟩
  | false =>
    cases n2 : r == 9 with
    | true =>
      rw [hR, n1, n2]; clear hR
      go_enter Tryd.func14, Tryd.ntmps14
      go_wp2
      go_ret
      exact ⟨rfl, rfl⟩
    | false =>
      rw [hR, n1, n2]; clear hR
      go_enter Tryd.func14, Tryd.ntmps14
      go_wp2
      go_ret
      exact ⟨rfl, rfl⟩

theorem barred_walk (r : Int) (w : World) : Calls Tryd.prog 16 #[.int .i32 r] w fun e w' => e = .returned (.bool (W.barredR r)) ∧ w' = w := by
  have hR : W.barredR r = (decide (r < 32) || (r == 127)) := rfl
  cases n1 : decide (r < 32) with
  | true =>
    rw [hR, n1]; clear hR
    go_enter Tryd.func16, Tryd.ntmps16
    go_wp2
    go_ret
    exact ⟨rfl, rfl⟩
  | false =>
    cases n2 : r == 127 with
    | true =>
      rw [hR, n1, n2]; clear hR
      go_enter Tryd.func16, Tryd.ntmps16
      go_wp2
      go_ret
      exact ⟨rfl, rfl⟩
    | false =>
      rw [hR, n1, n2]; clear hR
      go_enter Tryd.func16, Tryd.ntmps16
      go_wp2
      go_ret
      exact ⟨rfl, rfl⟩

theorem meant_walk (r : Int) (w : World) : Calls Tryd.prog 25 #[.int .i32 r] w fun e w' => e = .returned (.int .u8 (W.meantR r)) ∧ w' = w := by
  by_cases n1 : r = 92
  · subst n1
    go_enter Tryd.func25, Tryd.ntmps25
    go_wp2
    go_ret
    exact ⟨rfl, rfl⟩
  by_cases n2 : r = 34
  · subst n2
    go_enter Tryd.func25, Tryd.ntmps25
    go_wp2
    go_ret
    exact ⟨rfl, rfl⟩
  by_cases n3 : r = 110
  · subst n3
    go_enter Tryd.func25, Tryd.ntmps25
    go_wp2
    go_ret
    exact ⟨rfl, rfl⟩
  by_cases n4 : r = 116
  · subst n4
    go_enter Tryd.func25, Tryd.ntmps25
    go_wp2
    go_ret
    exact ⟨rfl, rfl⟩
  have hR : W.meantR r = 0 := by unfold W.meantR; rw [if_neg n1, if_neg n2, if_neg n3, if_neg n4]
  rw [hR]; clear hR
  have m1 : (r == 92) = false := by simpa using n1
  have m2 : (r == 34) = false := by simpa using n2
  have m3 : (r == 110) = false := by simpa using n3
  have m4 : (r == 116) = false := by simpa using n4
  clear n1 n2 n3 n4
  go_enter Tryd.func25, Tryd.ntmps25
  go_wp2
  go_ret
  exact ⟨rfl, rfl⟩

theorem dig_a {c : Int} (h1 : 48 ≤ c) (h2 : c ≤ 57) : W.digitR c = c - 48 := by unfold W.digitR; rw [if_pos ⟨h1, h2⟩]
theorem dig_b {c : Int} (h1 : 97 ≤ c) (h2 : c ≤ 102) : W.digitR c = c - 97 + 10 := by unfold W.digitR; rw [if_neg (by omega), if_pos ⟨h1, h2⟩]
theorem dig_c {c : Int} (h1 : 65 ≤ c) (h2 : c ≤ 70) : W.digitR c = c - 65 + 10 := by unfold W.digitR; rw [if_neg (by omega), if_neg (by omega), if_pos ⟨h1, h2⟩]
theorem dig_d {c : Int} (h1 : ¬ (48 ≤ c ∧ c ≤ 57)) (h2 : ¬ (97 ≤ c ∧ c ≤ 102)) (h3 : ¬ (65 ≤ c ∧ c ≤ 70)) : W.digitR c = -1 := by
  unfold W.digitR; rw [if_neg h1, if_neg h2, if_neg h3]

theorem digit_walk (c : Int) (w : World) : Calls Tryd.prog 26 #[.int .i32 c] w fun e w' => e = .returned (.int .i64 (W.digitR c)) ∧ w' = w := by
  by_cases h1 : 48 ≤ c
  · by_cases h2 : c ≤ 57
    · have H := Lib.hid (dig_a h1 h2)
      generalize W.digitR c = r at *
      go_enter Tryd.func26, Tryd.ntmps26
      go_wp2
      go_ret
      exact ⟨ret_i64 H.out, rfl⟩
    · by_cases h3 : 97 ≤ c
      · by_cases h4 : c ≤ 102
        · have H := Lib.hid (dig_b h3 h4)
          generalize W.digitR c = r at *
          go_enter Tryd.func26, Tryd.ntmps26
          go_wp2
          go_ret
          exact ⟨ret_i64 H.out, rfl⟩
        · have H := Lib.hid (dig_d (c := c) (by omega) (by omega) (by omega))
          generalize W.digitR c = r at *
          go_enter Tryd.func26, Tryd.ntmps26
          go_wp2
          go_ret
          exact ⟨ret_i64 H.out, rfl⟩
      · by_cases h5 : 65 ≤ c
        · by_cases h6 : c ≤ 70
          · have H := Lib.hid (dig_c h5 h6)
            generalize W.digitR c = r at *
            go_enter Tryd.func26, Tryd.ntmps26
            go_wp2
            go_ret
            exact ⟨ret_i64 H.out, rfl⟩
          · have H := Lib.hid (dig_d (c := c) (by omega) (by omega) (by omega))
            generalize W.digitR c = r at *
            go_enter Tryd.func26, Tryd.ntmps26
            go_wp2
            go_ret
            exact ⟨ret_i64 H.out, rfl⟩
        · have H := Lib.hid (dig_d (c := c) (by omega) (by omega) (by omega))
          generalize W.digitR c = r at *
          go_enter Tryd.func26, Tryd.ntmps26
          go_wp2
          go_ret
          exact ⟨ret_i64 H.out, rfl⟩
  · have H := Lib.hid (dig_d (c := c) (by omega) (by omega) (by omega))
    generalize W.digitR c = r at *
    go_enter Tryd.func26, Tryd.ntmps26
    go_wp2
    go_ret
    exact ⟨ret_i64 H.out, rfl⟩

/-- A struct of the shell's reader in block b; its lists lie from block B on. -/
structure ShAt (w : World) (b B : Nat) (s : W.RS) (vw vws : Value) : Prop where
  lt : b < B
  le : B ≤ w.heap.size
  heap : w.heap[b]? = some (.cells #[.int .i64 s.at_, vw, vws, .int .i64 s.hex] 40 (0, 0))
  word : Own w B 5 vw s.word.length (bcells s.word)
  words : Own w B 9 vws s.words.length (scells s.words)

def Sh (w : World) (b B : Nat) (s : W.RS) : Prop := ∃ vw vws, ShAt w b B s vw vws
def ShPost (b B : Nat) (s : W.RS) (w : World) (e : Ending) (w' : World) : Prop := e = .returned (.tuple #[]) ∧ Sh w' b B s ∧ Out b B w w'

theorem sh_cells {w : World} {b B : Nat} {s : W.RS} (h : Sh w b B s) : w.cell? ⟨b, 0, none⟩ = some (.int .i64 s.at_) ∧ w.cell? ⟨b, 3, none⟩ = some (.int .i64 s.hex) ∧ ∀ k, w.frozen? ⟨b, k, none⟩ = false := by
  obtain ⟨vw, vws, h⟩ := h
  exact ⟨cell_whole h.heap 0, cell_whole h.heap 3, fun k => frozen_whole h.heap k⟩

theorem sh_at {w : World} {b B : Nat} {s : W.RS} (h : Sh w b B s) {k : Nat} (hk : s.at_ = k) : w.cell? ⟨b, 0, none⟩ = some (.int .i64 (k : Int)) := by
  have := (sh_cells h).1; rw [hk] at this; exact this

theorem sh_set {w : World} {b B : Nat} {s s' : W.RS} (h : Sh w b B s) (k : Nat) (v : Value)
    (hw : s'.word = s.word) (hws : s'.words = s.words)
    (hc : ∀ vw vws, (#[Value.int .i64 s.at_, vw, vws, .int .i64 s.hex] : Array Value).setIfInBounds k v = #[.int .i64 s'.at_, vw, vws, .int .i64 s'.hex]) :
    Sh (w.setCell ⟨b, k, none⟩ v) b B s' := by
  obtain ⟨vw, vws, h⟩ := h
  refine ⟨vw, vws, h.lt, by rw [size_set]; exact h.le, ?_, ?_, ?_⟩
  · rw [set_whole (i := k) h.heap v, hc]
  · rw [hw]; exact h.word.setCell h.lt
  · rw [hws]; exact h.words.setCell h.lt

theorem sh_open {w : World} {b B : Nat} {s : W.RS} (h : Sh w b B s) : ∃ aw cw vws, ShAt w b B s (.slice aw s.word.length cw) vws ∧ w.cell? ⟨b, 1, none⟩ = some (.slice aw s.word.length cw) := by
  obtain ⟨vw, vws, h⟩ := h
  obtain ⟨aw, cw, rfl⟩ := h.word.form
  exact ⟨aw, cw, vws, h, cell_whole h.heap 1⟩

/-- Behind an append of bytes to the word. -/
theorem sh_pushed {w w1 : World} {b B : Nat} {l m : List UInt8} {ws : List Value} {aw : Option Addr} {cw nws : Nat} {v' vws : Value} {o : Obj} (hlt : b < B) (hle : B ≤ w.heap.size)
    (hh : w.heap[b]? = some o) (hw : Own w B 5 (.slice aw l.length cw) l.length (bcells l)) (hws : Own w B 9 vws nws ws)
    (h1 : w1.ownsRow B 5 1 v' (l.length + m.length) (bcells l ++ bcells m)) (hg : w.grownBy w1 (Value.slice aw l.length cw).ownBlock) :
    w1.heap[b]? = some o ∧ Own w1 B 5 v' (l ++ m).length (bcells (l ++ m)) ∧ Own w1 B 9 vws nws ws ∧ Out b B w w1 ∧ B ≤ w1.heap.size ∧ ∃ a d, v' = .slice a (l.length + m.length) d := by
  have hb : ∀ k, (Value.slice aw l.length cw).ownBlock = some k → B ≤ k := fun k hk => (hw.block hk).1
  have ho : Own w1 B 5 v' (l ++ m).length (bcells (l ++ m)) := by
    rw [bcells_append, List.length_append]
    exact h1
  refine ⟨grown_whole hg hh ?_, ho, ?_, (Out.refl b B w).grown hg hle hb, Nat.le_trans hle hg.size, ?_⟩
  · intro e; have := hb _ e; omega
  · refine hws.keep fun k hk => hg.block k (hws.block hk).2.1 ?_
    intro e
    obtain ⟨_, _, cur, hcur⟩ := hw.block e.symm
    obtain ⟨_, _, cur', hcur'⟩ := hws.block hk
    rw [hcur] at hcur'
    cases hcur'
  · obtain ⟨a, d, e⟩ := ho.form
    exact ⟨a, d, by rw [e]; simp⟩

/-- The word one append longer, the struct told of it. -/
theorem sh_push {w w1 : World} {b B : Nat} {s : W.RS} {m : List UInt8} {aw : Option Addr} {cw : Nat} {v' vws : Value} (hA : ShAt w b B s (.slice aw s.word.length cw) vws)
    (h1 : w1.ownsRow B 5 1 v' (s.word.length + m.length) (bcells s.word ++ bcells m)) (hg : w.grownBy w1 (Value.slice aw s.word.length cw).ownBlock) :
    (∃ a d, v' = .slice a (s.word.length + m.length) d) ∧ (∃ u, w1.cell? ⟨b, 1, none⟩ = some u) ∧ (∀ k, w1.frozen? ⟨b, k, none⟩ = false) ∧ w1.cell? ⟨b, 0, none⟩ = some (.int .i64 s.at_) ∧
    Sh (w1.setCell ⟨b, 1, none⟩ v') b B (s.put m) ∧ Out b B w (w1.setCell ⟨b, 1, none⟩ v') ∧ (w1.setCell ⟨b, 1, none⟩ v').frozen? ⟨b, 0, none⟩ = false ∧ ∃ u, (w1.setCell ⟨b, 1, none⟩ v').cell? ⟨b, 0, none⟩ = some u := by
  obtain ⟨hh1, hw1, hws1, ho1, hB1, hf⟩ := sh_pushed hA.lt hA.le hA.heap hA.word hA.words h1 hg
  have hset : (w1.setCell ⟨b, 1, none⟩ v').heap[b]? = some (.cells #[.int .i64 s.at_, v', vws, .int .i64 s.hex] 40 (0, 0)) := by
    rw [set_whole (i := 1) hh1]; rfl
  refine ⟨hf, ⟨_, cell_whole hh1 1⟩, fun k => frozen_whole hh1 k, cell_whole hh1 0, ⟨v', vws, hA.lt, le_set hB1 _ _, hset, hw1.setCell hA.lt, hws1.setCell hA.lt⟩, ho1.setCell _ _ (.inl rfl), frozen_whole hset 0, _, cell_whole hset 0⟩
end Go.Proofs.YtheflheeaiopfaaDoor
