/- codec: nodeFits, EncodeNode: the root. -/
import Derived.Test.YtikfphojehgpjaaGreatDoorM23
set_option linter.unusedSimpArgs false
set_option linter.unusedVariables false
namespace Go.Proofs.YtikfphojehgpjaaGreatDoor
open Go.RowKit Vl Go.Maps Go.ChangeMaps
set_option linter.unusedVariables false

def rootCells : Array Value := #[.int .i64 2, .int .i64 2, .int .i64 1, .int .i64 0, .int .i64 0, .int .i64 0, .int .i64 0, .int .i64 0, .int .i64 0, .int .i64 0, .int .i64 0, .int .i64 0, .int .i64 0, .int .i64 0, .int .i64 0, .int .i64 0, .int .i64 0]
set_option maxRecDepth 100000 in
set_option maxHeartbeats 4000000 in
theorem rootFits_walk (w : World) : Calls Tryz.prog 166 #[.agg rootCells] w fun e w' => e = .returned (.bool true) ∧ Kept [] w w' := by
  have hn := heap_alloc_new w (.cells rootCells 134)
  have hk := (Kept.refl [] w).alloc (.cells rootCells 134)
  unfold rootCells at *
  go_enter Tryz.func166, Tryz.ntmps166
  go_upto_region 1 with fail
  generalize hw : w.alloc (.cells #[.int .i64 2, .int .i64 2, .int .i64 1, .int .i64 0, .int .i64 0, .int .i64 0, .int .i64 0, .int .i64 0, .int .i64 0, .int .i64 0, .int .i64 0, .int .i64 0, .int .i64 0, .int .i64 0, .int .i64 0, .int .i64 0, .int .i64 0] 134) = w1 at *
  clear hw
  generalize hb : w.heap.size = b at *
  have HN := Lib.hid hn
  have HK := Lib.hid hk
  have HB := Lib.hid hb
  have c0 := cell_whole hn 0
  have c1 := cell_whole hn 1
  have c2 := cell_whole hn 2
  have c3 := cell_whole hn 3
  have c4 := cell_whole hn 4
  have c5 := cell_whole hn 5
  have c6 := cell_whole hn 6
  have c7 := cell_whole hn 7
  have c8 := cell_whole hn 8
  have c9 := cell_whole hn 9
  have c10 := cell_whole hn 10
  have c11 := cell_whole hn 11
  have c12 := cell_whole hn 12
  have c13 := cell_whole hn 13
  have c14 := cell_whole hn 14
  have c15 := cell_whole hn 15
  have c16 := cell_whole hn 16
  have hl := lt_whole hn
  simp only [List.getElem?_toArray, List.getElem?_cons_zero, List.getElem?_cons_succ] at c0 c1 c2 c3 c4 c5 c6 c7 c8 c9 c10 c11 c12 c13 c14 c15 c16
  clear hn hk hb
  go_wp2_with (first | (go_at_call 195; refine (between_walk _ _ _ _).mono ?_; rintro e w' ⟨rfl, rfl⟩))
  obtain ⟨i3, hq3, hz0, hz1, hz2⟩ := info_parts info3
  have hz10 : ∀ j u, (List.replicate 10 (Value.int .i64 0))[j]? = some u → w'.cell? ((⟨b, 5, none⟩ : Addr).add j) = some u := fun j u hj => by
    obtain ⟨hj1, hj2⟩ := List.getElem?_eq_some_iff.1 hj
    rw [List.length_replicate] at hj1
    rw [List.getElem_replicate] at hj2
    subst hj2
    rw [Addr.add_lit, cell_whole HN.out]
    have : j = 0 ∨ j = 1 ∨ j = 2 ∨ j = 3 ∨ j = 4 ∨ j = 5 ∨ j = 6 ∨ j = 7 ∨ j = 8 ∨ j = 9 := by omega
    rcases this with rfl | rfl | rfl | rfl | rfl | rfl | rfl | rfl | rfl | rfl <;> rfl
  have hka := (Kept.refl [] w').alloc (.cells #[.int .i64 0, .int .i64 0] 3)
  obtain ⟨v6, w6, hap, ho6, hg6⟩ := run_append_arg_grows (P := Tryz.prog) (w := (w'.alloc (.cells #[.int .i64 0, .int .i64 0] 3)).drew) 156 156 3 i3 (.int .i64 0) 1 8 Tryz.underlying156 hq3 hz0 hz1 hz2 rfl (by decide) ⟨b, 5, none⟩ 10 10 (List.replicate 10 (.int .i64 0)) (by simp) (fun j u hj => by
    have := hz10 j u hj
    rw [Addr.add_lit] at this ⊢
    exact (cell_kept hka.drew hl (i := 5 + j) (by simp)).trans this) ⟨w'.heap.size, 0, none⟩ 2 2 [.int .i64 0, .int .i64 0] rfl (fun j u hj => new_cells w' [.int .i64 0, .int .i64 0] 3 _ rfl j u hj) (by omega) (by unfold maxLen; omega) (by omega)
  obtain ⟨g6, c6, cur6, rfl, hgb6, hcur6, hle6, _, hcs6, htk6⟩ : ∃ g c cur, v6 = .slice (some ⟨g, 0, none⟩) 12 c ∧ (w'.alloc (.cells #[.int .i64 0, .int .i64 0] 3)).drew.heap.size ≤ g ∧ w6.heap[g]? = some (.cells cur 3 (0, 0)) ∧ 12 ≤ c ∧ c ≤ maxLen ∧ cur.size = c * 1 ∧ cur.toList.take (12 * 1) = List.replicate 10 (.int .i64 0) ++ [.int .i64 0, .int .i64 0] := by
    rcases ho6.2 with ⟨_, e0⟩ | h
    · cases e0
    · exact h
  have hcell6 : ∀ k, k < 12 → w6.cell? ⟨g6, k, none⟩ = some (.int .i64 0) := fun k hk => by
    rw [cell_whole hcur6 k, ← Array.getElem?_toList]
    have e : (cur6.toList.take 12)[k]? = (List.replicate 12 (Value.int .i64 0))[k]? := by rw [show (12 : Nat) = 12 * 1 from rfl, htk6]; rfl
    rw [List.getElem?_take_of_lt hk] at e
    rw [e, List.getElem?_replicate, if_pos hk]
  have HC6 := Lib.hid hcell6
  have hgl6 := lt_whole hcur6
  have HK6 := Lib.hid ((HK.out.trans hka.drew (by simp)).grown hg6 (fun k e => by cases e))
  clear ho6 hg6 hcur6 hle6 hcs6 htk6 hka hz10 hcell6 hgb6
  refine wp_canon (by kernel_rfl) (by kernel_rfl) ?_
  go_wp2_with (at_builtin; refine wpList_append_eq rfl _ _ 156 156 rfl rfl rfl hap ?_)
  refine ⟨rfl, ?_⟩
  clear hap
  go_wp2_with fail
  go_loopw [3, 5, 51] (fun v3 _ v51 wr => ∃ k : Nat, k ≤ 12 ∧ v3 = .bool true ∧ v51 = .int .i64 k ∧ wr = w6) (fun _ _ v51 _ => 12 - (intOf v51).toNat)
  case atStart => exact ⟨0, by omega, rfl, rfl, rfl⟩
  case round =>
    obtain ⟨k, hk, rfl, rfl, rfl⟩ := hrel
    by_cases hlt : k < 12
    · have hc := HC6.out k hlt
      go_wp2_with (first | (go_at_call 195; refine (between_walk _ _ _ _).mono ?_; rintro e w' ⟨rfl, rfl⟩))
      go_roundw
      case rel => first | exact ⟨k + 1, by omega, rfl, by go_num, trivial⟩ | exact ⟨k + 1, by omega, by go_num, trivial⟩ | exact ⟨k + 1, by omega, trivial, by go_num, trivial⟩
      case measure => simp [intOf]; omega
    · obtain rfl : k = 12 := by omega
      go_wp2
      go_ret
      exact ⟨rfl, HK6.out⟩
end Go.Proofs.YtikfphojehgpjaaGreatDoor
