/- vellumlaw16.marked: a text of its own for each number. -/
import Derived.Test.YtheflheeaiopfaaDoorShQLaw
import Derived.Test.YtheflheeaiopfaaDoorCanonCall
namespace Go.Proofs.YtheflheeaiopfaaDoor
open Go.RowKit Vl
set_option linter.unusedVariables false

def markL (n : Nat) : List UInt8 := if h : n < 10 then [UInt8.ofNat (48 + n)] else markL (n / 10) ++ [UInt8.ofNat (48 + n % 10)]
theorem markL_small {n : Nat} (h : n < 10) : markL n = [UInt8.ofNat (48 + n)] := by unfold markL; rw [dif_pos h]
theorem markL_great {n : Nat} (h : ¬ n < 10) : markL n = markL (n / 10) ++ [UInt8.ofNat (48 + n % 10)] := by
  conv => lhs; unfold markL
  rw [dif_neg h]
theorem strOf_append (a b : List UInt8) : strOf a ++ strOf b = strOf (a ++ b) := by
  apply ByteArray.ext
  simp [strOf, ByteArray.data_append]
theorem markL_len (n : Nat) : (markL n).length ≤ n + 1 := by
  induction n using Nat.strongRecOn with
  | _ n ih =>
    by_cases h : n < 10
    · rw [markL_small h]; simp
    · rw [markL_great h, List.length_append]
      have := ih (n / 10) (by omega)
      simp only [List.length_cons, List.length_nil]
      omega

theorem bytes_new' (w : World) (x : UInt8) (fr : Nat × Nat) (o : Obj) (ho : o = .cells #[.int .u8 x.toNat] 5 fr) : BytesAt (w.alloc o) (some ⟨w.heap.size, 0, none⟩) [x] := by
  subst ho
  intro i hi
  have hi0 : i = 0 := by simpa using hi
  subst hi0
  exact ⟨_, _, rfl, by rw [size_alloc]; omega, cell_whole (heap_alloc_new w _) 0⟩

theorem digit_bytes (w : World) (d : Nat) (hd : d < 10) (fr : Nat × Nat) : (convert 33 9 (.slice (some ⟨w.heap.size, 0, none⟩) 1 1)).run Tryd.prog (w.alloc (.cells #[.int .u8 (48 + (d : Int))] 5 fr)) = .ok (.string (strOf [UInt8.ofNat (48 + d)])) (w.alloc (.cells #[.int .u8 (48 + (d : Int))] 5 fr)) := by
  have hv : (((UInt8.ofNat (48 + d)).toNat : Nat) : Int) = 48 + (d : Int) := by rw [UInt8.toNat_ofNat']; omega
  have := bytes_conv (bytes_new' w (UInt8.ofNat (48 + d)) fr _ rfl) 1
  rw [hv] at this
  exact this

theorem digit_below (w w' : World) (d : Nat) (hd : d < 10) (hb : Below (w.alloc (.cells #[.int .u8 (48 + (d : Int))] 5 (0, 0))).heap.size (w.alloc (.cells #[.int .u8 (48 + (d : Int))] 5 (0, 0))) w') :
    (convert 33 9 (.slice (some ⟨w.heap.size, 0, none⟩) 1 1)).run Tryd.prog w' = .ok (.string (strOf [UInt8.ofNat (48 + d)])) w' := by
  have hv : (((UInt8.ofNat (48 + d)).toNat : Nat) : Int) = 48 + (d : Int) := by rw [UInt8.toNat_ofNat']; omega
  have hB : BytesAt (w.alloc (.cells #[.int .u8 (48 + (d : Int))] 5 (0, 0))) (some ⟨w.heap.size, 0, none⟩) [UInt8.ofNat (48 + d)] := bytes_new' w (UInt8.ofNat (48 + d)) (0, 0) _ (by rw [hv])
  exact bytes_conv (hB.below hb) 1

set_option maxRecDepth 100000 in
set_option maxHeartbeats 1000000 in
theorem marked_walk : ∀ (fuel n : Nat), n < fuel → n ≤ 100000 → ∀ (w : World), Calls Tryd.prog 10 #[.int .i64 (n : Int)] w fun e w' => e = .returned (.string (strOf (markL n))) ∧ Below w.heap.size w w'
  | 0, n, h, _, _ => absurd h (by omega)
  | fuel + 1, n, hf, hn, w => by
    by_cases h10 : n < 10
    · have hd := digit_bytes w n h10 (0, 0)
      rw [markL_small h10]
      generalize strOf [UInt8.ofNat (48 + n)] = sv at *
      go_enter Tryd.func10, Tryd.ntmps10
      go_wp2
      go_ret
      exact ⟨rfl, (Below.refl _ _).alloc (Nat.le_refl _) _⟩
    · have e : ((n / 10 : Nat) : Int) = (n : Int) / 10 := by omega
      have IH := fun w => marked_walk fuel (n / 10) (by omega) (by omega) w
      simp only [e] at IH
      have hl := markL_len (n / 10)
      have hsz : (strOf (markL (n / 10))).size ≤ 100001 := by rw [strOf_size]; omega
      have HH := Lib.hid IH
      rw [markL_great h10, ← strOf_append]
      clear IH e hl
      generalize strOf (markL (n / 10)) = sl at *
      go_enter Tryd.func10, Tryd.ntmps10
      go_wp2
      have hd := fun (w : World) => digit_bytes w (n % 10) (by omega) (0, 0)
      have hd2 := fun (w w' : World) => digit_below w w' (n % 10) (by omega)
      have e2 : ((n % 10 : Nat) : Int) = (n : Int) % 10 := by omega
      simp only [e2] at hd hd2
      have hsd : (strOf [UInt8.ofNat (48 + n % 10)]).size = 1 := rfl
      generalize hsdd : strOf [UInt8.ofNat (48 + n % 10)] = sd at *
      have HSD := Lib.hid hsdd
      clear hsdd
      have hd3 : (convert 33 9 (.slice (some ⟨w.heap.size, 0, none⟩) 1 1)).run Tryd.prog (w.alloc (.cells #[.int .u8 (48 + (n : Int) % 10)] 5)).drew = .ok (.string sd) (w.alloc (.cells #[.int .u8 (48 + (n : Int) % 10)] 5)).drew := hd w.drew
      have HD2 := Lib.hid hd2
      clear hd2
      refine wp_canon_call 2 [7, 8] [[0, 1, 2, 3, 4, 5, 6, 7, 8, 9, 10], [0, 1, 3, 4, 5, 6, 7, 2, 8, 9, 10], [0, 1, 3, 4, 5, 6, 7, 8, 2, 9, 10]] (by kernel_rfl) (by kernel_rfl) (by kernel_rfl) ⟨?_, ?_, ?_, trivial⟩
      all_goals simp only [List.filterMap_cons, List.filterMap_nil, List.getElem?_toArray, List.getElem?_cons_zero, List.getElem?_cons_succ]
      · go_wp2_with fail
        refine (HH.out _).mono ?_
        rintro e w' ⟨rfl, hb⟩
        have HB := Lib.hid ((Below.refl w.heap.size w).drew.trans hb)
        clear hb
        go_wp2
        refine ⟨rfl, ?_⟩
        go_wp2
        go_ret
        exact ⟨by rw [HSD.out]; rfl, HB.out.alloc HB.out.size _⟩
      · go_wp2_with fail
        refine (HH.out _).mono ?_
        rintro e w' ⟨rfl, hb⟩
        have hcv : (convert 33 9 (.slice (some ⟨w.heap.size, 0, none⟩) 1 1)).run Tryd.prog w' = .ok (.string sd) w' := HD2.out w.drew w' hb
        have HB := Lib.hid (((Below.refl w.heap.size w).drew.alloc (Nat.le_refl _) _).trans (hb.mono (le_alloc (Nat.le_refl _) _)))
        clear hb hd
        go_wp2
        refine ⟨rfl, ?_⟩
        go_wp2
        go_ret
        exact ⟨by rw [HSD.out]; rfl, HB.out⟩
      · go_wp2_with fail
        refine (HH.out _).mono ?_
        rintro e w' ⟨rfl, hb⟩
        have HB := Lib.hid (((Below.refl w.heap.size w).drew.alloc (Nat.le_refl _) _).trans (hb.mono (le_alloc (Nat.le_refl _) _)))
        clear hb
        go_wp2
        refine ⟨rfl, ?_⟩
        go_wp2
        go_ret
        exact ⟨by rw [HSD.out]; rfl, HB.out⟩
end Go.Proofs.YtheflheeaiopfaaDoor
