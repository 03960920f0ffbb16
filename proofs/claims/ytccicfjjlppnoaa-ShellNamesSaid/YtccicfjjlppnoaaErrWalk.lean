/- The contract of api.Errno.Error: it returns the word that the table has for the number, 'error' for every other number. -/
import Derived.Test.YtccicfjjlppnoaaRows
import Derived.WalkKit
import Derived.ProofKit
import Derived.OpenShut
import Derived.LoopTactic
import Derived.Laws.Tables
import Derived.Lib.Hide
import Derived.Below
namespace Go.Proofs.Ytccicfjjlppnoaa.errWalk
open Go.ChangeShapes Go.WideShapes Go.ChangeAt Go.RowKit
set_option linter.unusedVariables false

def tab : List (Int × List UInt8) := [(0, [111, 107]), (1, [97, 114, 103]), (2, [108, 101, 110, 103, 116, 104]), (3, [100, 101, 97, 100]), (4, [101, 110, 100, 101, 100]), (5, [98, 117, 115, 121]), (6, [99, 111, 114, 114, 117, 112, 116]), (7, [108, 111, 110, 103]), (10, [115, 101, 99, 116, 111, 114, 115]), (11, [114, 97, 110, 103, 101]), (20, [102, 105, 101, 108, 100]), (21, [110, 97, 109, 101]), (22, [103, 101, 111, 109, 101, 116, 114, 121]), (30, [116, 111, 114, 110]), (31, [115, 116, 97, 108, 101]), (40, [102, 117, 108, 108]), (41, [119, 111, 114, 110]), (50, [98, 117, 100, 103, 101, 116]), (60, [110, 111, 115, 112, 97, 99, 101]), (61, [110, 111, 110, 111, 100, 101, 115]), (62, [102, 114, 101, 101]), (70, [110, 111, 100, 101]), (71, [111, 119, 110, 101, 100]), (80, [98, 105, 103]), (90, [115, 116, 101, 112]), (100, [110, 111, 116, 102, 111, 117, 110, 100]), (101, [101, 120, 105, 115, 116, 115]), (110, [112, 97, 116, 104]), (111, [110, 111, 116, 100, 105, 114]), (112, [108, 111, 111, 112]), (120, [119, 111, 114, 107, 101, 114, 115]), (130, [111, 112]), (131, [105, 115, 100, 105, 114]), (132, [110, 111, 116, 101, 109, 112, 116, 121]), (133, [108, 105, 110, 107, 115]), (134, [105, 110, 115, 105, 100, 101]), (136, [110, 111, 116, 108, 105, 110, 107]), (137, [110, 111, 116, 104, 101, 108, 100]), (140, [104, 97, 110, 100, 108, 101]), (141, [109, 111, 100, 101]), (142, [109, 97, 110, 121]), (150, [97, 114, 99, 104, 105, 118, 101]), (160, [119, 111, 114, 100]), (180, [112, 97, 116, 99, 104]), (181, [98, 97, 115, 101]), (190, [112, 97, 116, 116, 101, 114, 110]), (191, [113, 117, 101, 114, 121]), (192, [100, 101, 101, 112]), (200, [115, 101, 115, 115, 105, 111, 110]), (201, [119, 97, 105, 116, 115]), (202, [100, 101, 97, 100, 108, 111, 99, 107]), (203, [108, 111, 99, 107, 115])]
def tabCells : Array Value := (tab.flatMap fun r => [Value.int .i64 r.1, Value.string ⟨r.2.toArray⟩]).toArray
def noAt (k : Nat) : Int := (tab.getD k (0, [])).1
def wordAt (k : Nat) : ByteArray := ⟨(tab.getD k (0, [])).2.toArray⟩
def errWord (e : Int) : ByteArray := match tab.find? (fun r => r.1 == e) with | some r => ⟨r.2.toArray⟩ | none => ⟨#[101, 114, 114, 111, 114]⟩

theorem wpList_build_as {P : Program} {ops : Array Oper} {rest : List Oper} {o : Oper} {a : Act} {w : World} {Q : Exit → Act → World → Prop} (hg : o.guard = none) (t : TypeId) (parts : Array (Nat × Operand)) (ho : o.op = .build t parts)
    (cells : Array Value) (hf : P.built t (parts.map fun (i, x) => (i, a.eval x)).toList = some cells)
    (h : wpList P ops Q rest (a.put o.dst (.agg cells)) w) : wpList P ops Q (o :: rest) a w :=
  wpList_build hg t parts ho (by rw [hf]; rfl) (by rw [hf]; exact h)

theorem idx_at : ∀ (k : Nat) (_ : k < 52) (w : World), (Instr.index 26 (.agg tabCells) (.int .i64 k)).run Try.prog w = .ok (.agg #[.int .i64 (noAt k), .string (wordAt k)]) w
  | 0, _, _ => by kernel_rfl
  | 1, _, _ => by kernel_rfl
  | 2, _, _ => by kernel_rfl
  | 3, _, _ => by kernel_rfl
  | 4, _, _ => by kernel_rfl
  | 5, _, _ => by kernel_rfl
  | 6, _, _ => by kernel_rfl
  | 7, _, _ => by kernel_rfl
  | 8, _, _ => by kernel_rfl
  | 9, _, _ => by kernel_rfl
  | 10, _, _ => by kernel_rfl
  | 11, _, _ => by kernel_rfl
  | 12, _, _ => by kernel_rfl
  | 13, _, _ => by kernel_rfl
  | 14, _, _ => by kernel_rfl
  | 15, _, _ => by kernel_rfl
  | 16, _, _ => by kernel_rfl
  | 17, _, _ => by kernel_rfl
  | 18, _, _ => by kernel_rfl
  | 19, _, _ => by kernel_rfl
  | 20, _, _ => by kernel_rfl
  | 21, _, _ => by kernel_rfl
  | 22, _, _ => by kernel_rfl
  | 23, _, _ => by kernel_rfl
  | 24, _, _ => by kernel_rfl
  | 25, _, _ => by kernel_rfl
  | 26, _, _ => by kernel_rfl
  | 27, _, _ => by kernel_rfl
  | 28, _, _ => by kernel_rfl
  | 29, _, _ => by kernel_rfl
  | 30, _, _ => by kernel_rfl
  | 31, _, _ => by kernel_rfl
  | 32, _, _ => by kernel_rfl
  | 33, _, _ => by kernel_rfl
  | 34, _, _ => by kernel_rfl
  | 35, _, _ => by kernel_rfl
  | 36, _, _ => by kernel_rfl
  | 37, _, _ => by kernel_rfl
  | 38, _, _ => by kernel_rfl
  | 39, _, _ => by kernel_rfl
  | 40, _, _ => by kernel_rfl
  | 41, _, _ => by kernel_rfl
  | 42, _, _ => by kernel_rfl
  | 43, _, _ => by kernel_rfl
  | 44, _, _ => by kernel_rfl
  | 45, _, _ => by kernel_rfl
  | 46, _, _ => by kernel_rfl
  | 47, _, _ => by kernel_rfl
  | 48, _, _ => by kernel_rfl
  | 49, _, _ => by kernel_rfl
  | 50, _, _ => by kernel_rfl
  | 51, _, _ => by kernel_rfl
  | n + 52, h, _ => by omega

theorem find_first : ∀ (l : List (Int × List UInt8)) (e : Int) (k : Nat), k < l.length → (∀ j, j < k → (l.getD j (0, [])).1 ≠ e) → (l.getD k (0, [])).1 = e →
    l.find? (fun r => r.1 == e) = some (l.getD k (0, []))
  | [], _, k, h, _, _ => by simp at h
  | r :: l, e, 0, _, _, he => by
    have : (r.1 == e) = true := by simpa using he
    simp [this]
  | r :: l, e, k + 1, h, hn, he => by
    have h0 : (r.1 == e) = false := by have := hn 0 (by omega); simpa using this
    rw [List.find?_cons, h0]
    have := find_first l e k (by simpa using h) (fun j hj => by have := hn (j + 1) (by omega); simpa using this) (by simpa using he)
    simpa using this

theorem find_none : ∀ (l : List (Int × List UInt8)) (e : Int), (∀ j, j < l.length → (l.getD j (0, [])).1 ≠ e) → l.find? (fun r => r.1 == e) = none
  | [], _, _ => rfl
  | r :: l, e, hn => by
    have h0 : (r.1 == e) = false := by have := hn 0 (by simp); simpa using this
    rw [List.find?_cons, h0]
    exact find_none l e (fun j hj => by have := hn (j + 1) (by simpa using hj); simpa using this)

theorem errWord_at {e : Int} {k : Nat} (hk : k < 52) (hn : ∀ j, j < k → noAt j ≠ e) (he : noAt k = e) : errWord e = wordAt k := by
  unfold errWord wordAt
  rw [find_first tab e k hk hn he]

theorem errWord_none {e : Int} (hn : ∀ j, j < 52 → noAt j ≠ e) : errWord e = ⟨#[101, 114, 114, 111, 114]⟩ := by
  unfold errWord
  rw [find_none tab e hn]

theorem str_of {a b : ByteArray} (h : a = b) : Ending.returned (.string b) = .returned (.string a) := by rw [h]

def ErrPost (e : Int) (w : World) (r : Ending) (w' : World) : Prop := r = .returned (.string (errWord e)) ∧ Below w.heap.size w w'

set_option maxRecDepth 100000 in
set_option maxHeartbeats 4000000 in
set_option maxRecDepth 100000 in
set_option maxHeartbeats 4000000 in
theorem err_walk (e : Int) (w : World) : Calls Try.prog 6 #[.int .i64 e] w (ErrPost e w) := by
  go_enter Try.func6, Try.ntmps6
  go_wp2_with (refine wpList_build_as rfl 26 _ rfl tabCells (by kernel_rfl) ?_)
  go_loopw [2, 58] (fun r i wr => ∃ k : Nat, k ≤ 52 ∧ i = .int .i64 k ∧ (∀ j, j < k → noAt j ≠ e) ∧ Below w.heap.size w wr) (fun _ i _ => 52 - (intOf i).toNat)
  case atStart => exact ⟨0, by omega, rfl, fun j h => by omega, Below.refl _ _⟩
  case round =>
    obtain ⟨k, hk, rfl, hno, hb⟩ := hrel
    have HN : Hid (∀ j, j < k → noAt j ≠ e) := hno
    clear hno
    by_cases hlt : k < 52
    · have hi := idx_at k hlt
      have hw := hb.size
      by_cases he : noAt k = e
      · have h1 : (noAt k == e) = true := by simpa using he
        have HE : Hid (errWord e = wordAt k) := errWord_at hlt HN.out he
        clear he
        go_wp2
        go_ret
        exact ⟨str_of HE.out, (hb.alloc (by omega) _)⟩
      · have h1 : (noAt k == e) = false := by simpa using he
        have HM : Hid (∀ j, j < k + 1 → noAt j ≠ e) := fun j hj => by
          by_cases hjk : j = k
          · subst hjk; exact he
          · exact HN.out j (by omega)
        clear he
        go_wp2
        go_roundw
        case rel => exact ⟨k + 1, by omega, by go_num, HM.out, (hb.alloc (by omega) _)⟩
        case measure => simp [intOf]; omega
    · have HE : Hid (errWord e = ⟨#[101, 114, 114, 111, 114]⟩) := errWord_none (fun j hj => HN.out j (by omega))
      go_wp2
      go_ret
      exact ⟨str_of HE.out, hb⟩
end Go.Proofs.Ytccicfjjlppnoaa.errWalk
