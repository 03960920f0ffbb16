/- vellumref3: form. -/
import Derived.Test.YtikfphojehgpjaaGreatDoorM06
import Derived.Deep.CutBlock
set_option linter.unusedSimpArgs false
set_option linter.unusedVariables false
namespace Go.Proofs.YtikfphojehgpjaaGreatDoor
open Go.RowKit Vl
set_option linter.unusedVariables false

theorem push1 {w0 w w1 : World} {o : Obj} {B : Nat} {l : List UInt8} (c : UInt8) {cv : Int} {v v' : Value} {n : Nat} (m : Nat) (hm : m = n + 1) (hc : (c.toNat : Int) = cv) (hb : Below B w0 w) (hB : B ≤ w0.heap.size) (hO : Vl.Own w B 5 v n (bcells l))
    (h1 : w1.ownsRow B 5 1 v' (n + 1) (bcells l ++ [.int .u8 cv])) (hg : (w.alloc o).grownBy w1 v.ownBlock) :
    Vl.Own w1 B 5 v' m (bcells (l ++ [c])) ∧ Below B w0 w1 := by
  subst hm
  constructor
  · rw [bcells_append, show bcells [c] = [.int .u8 cv] by unfold bcells; simp only [List.map_cons, List.map_nil, hc]]; exact h1
  · exact (hb.alloc (Nat.le_trans hB hb.size) _).grown hg (le_alloc (Nat.le_trans hB hb.size) _) (fun k hk => (hO.block hk).1)
def slLen : Value → Nat
  | .slice _ n _ => n
  | _ => 0
theorem byte_mod (n : Nat) : ((UInt8.ofNat (n % 256)).toNat : Int) = (n : Int) % 256 := by rw [UInt8.toNat_ofNat']; omega
def FormPost (t : UInt8) (body : List UInt8) (w : World) (e : Ending) (w' : World) : Prop := ∃ a c, e = .returned (.slice a 512 c) ∧ BytesAt w' a (sealSec t body) ∧ Below w.heap.size w w'
theorem leB4r (s : Nat) (k : Nat) (hk : k < 4) : (leB s 4).take (k + 1) = (leB s 4).take k ++ [UInt8.ofNat (s / 256 ^ k % 256)] := by
  have : k = 0 ∨ k = 1 ∨ k = 2 ∨ k = 3 := by omega
  rcases this with rfl | rfl | rfl | rfl
  · simp [leB]
  · simp [leB]
  · simp [leB, Nat.div_div_eq_div_mul]
  · simp [leB, Nat.div_div_eq_div_mul]

set_option maxRecDepth 100000 in
set_option maxHeartbeats 4000000 in
theorem form_walk (t : UInt8) (body : List UInt8) (a : Option Addr) (c : Nat) (w : World) (h : BytesAt w a body) (hb : body.length ≤ 504) :
    Calls Tryz.prog 197 #[.int .i64 t.toNat, .slice a body.length c] w (FormPost t body w) := by
  obtain ⟨i0, hi, hz0, hz1, hz2⟩ := info_parts info5
  have H := Lib.hid h
  clear h
  have hn0 := Vl.Own.nil w w.heap.size 5
  obtain ⟨B, HB⟩ : ∃ B, Hid (B = w.heap.size) := ⟨_, Lib.hid rfl⟩
  have hB0 : B ≤ w.heap.size := Nat.le_of_eq HB.out
  rw [← HB.out] at hn0
  go_enter Tryz.func197, Tryz.ntmps197
  go_wp2_with (at_builtin; refine wpList_append_own _ rfl _ _ 22 rfl B 5 i0 (.int .u8 0) 1 1 Tryz.underlying22 hi hz0 hz1 hz2 rfl (by decide) _ _ _ rfl (hn0.alloc _) ⟨w.heap.size, 0, none⟩ 1 1 [_] rfl rfl (new_one _ _ _ _ rfl) (Vl.one_cell rfl) (by unfold maxLen; omega) (by omega) (le_alloc hB0 _) ?_)
  intro v1 w1 h1 hg1 _
  obtain ⟨o1, b1⟩ := push1 (UInt8.ofNat (body.length % 256)) 1 rfl (l := []) (byte_mod _) (Below.refl B w) hB0 hn0 h1 hg1
  obtain ⟨a1, c1, rfl⟩ := o1.form
  clear h1 hg1
  have hs1 := Nat.le_trans hB0 b1.size
  go_wp2_with (at_builtin; refine wpList_append_own _ rfl _ _ 22 rfl B 5 i0 (.int .u8 0) 1 1 Tryz.underlying22 hi hz0 hz1 hz2 rfl (by decide) _ _ _ rfl (o1.alloc _) ⟨w1.heap.size, 0, none⟩ 1 1 [_] rfl rfl (new_one _ _ _ _ rfl) (Vl.one_cell rfl) (by unfold maxLen; omega) (by omega) (le_alloc hs1 _) ?_)
  intro v2 w2 h2 hg2 _
  obtain ⟨o2, b2⟩ := push1 (UInt8.ofNat (body.length / 256 % 256)) 2 rfl (byte_mod _) b1 hB0 o1 (by rw [Int.natCast_ediv]; rw [show ((256 : Nat) : Int) = 256 from rfl, show (body.length : Int) / 256 % 256 = (body.length : Int) / 256 by omega]; exact h2) hg2
  have HO2 := Lib.hid (show Vl.Own w2 B 5 v2 2 (bcells (leB body.length 2)) from o2)
  have HB2 := Lib.hid b2
  clear h2 hg2 o1 b1 o2 b2 hn0
  go_wp2
  go_loopw [5, 6] (fun v5 v6 wr => ∃ k : Nat, k ≤ body.length ∧ v6 = .int .i64 k ∧ Vl.Own wr B 5 v5 (2 + k) (bcells (leB body.length 2 ++ body.take k)) ∧ Below B w wr) (fun _ v6 _ => body.length - (intOf v6).toNat)
  case atStart => exact ⟨0, by omega, rfl, by rw [List.take_zero, List.append_nil]; exact HO2.out, HB2.out⟩
  case round =>
    obtain ⟨k, hk, rfl, ho, hbw⟩ := hrel
    obtain ⟨av, cv, rfl⟩ := ho.form
    have HO := Lib.hid ho
    have HBW := Lib.hid hbw
    have hsz := Nat.le_trans hB0 hbw.size
    by_cases hlt : k < body.length
    · obtain ⟨g, off, rfl, _, hc⟩ := (H.out.below (hbw.mono (Nat.le_of_eq HB.out.symm) |> fun x => HB.out ▸ hbw)) k hlt
      have HT := Lib.hid (List.take_succ_eq_append_getElem hlt)
      clear ho hbw
      go_wp2_with (at_builtin; refine wpList_append_own _ rfl _ _ 22 rfl B 5 i0 (.int .u8 0) 1 1 Tryz.underlying22 hi hz0 hz1 hz2 rfl (by decide) _ _ _ rfl (HO.out.alloc _) ⟨wr.heap.size, 0, none⟩ 1 1 [_] rfl rfl (new_one _ _ _ _ rfl) (Vl.one_cell rfl) (by unfold maxLen; omega) (by omega) (le_alloc hsz _) ?_)
      intro v3 w3 h3 hg3 _
      obtain ⟨o3, b3⟩ := push1 body[k] (2 + (k + 1)) rfl rfl HBW.out hB0 HO.out h3 hg3
      rw [List.append_assoc, ← HT.out] at o3
      have HO3 := Lib.hid o3
      have HB3 := Lib.hid b3
      clear h3 hg3 o3 b3
      go_wp2
      go_roundw
      case rel => exact ⟨k + 1, by omega, by go_num, HO3.out, HB3.out⟩
      case measure => simp [intOf]; omega
    · obtain rfl : k = body.length := by omega
      have HOT := Lib.hid (show Vl.Own wr B 5 (.slice av (2 + body.length) cv) (2 + body.length + 0) (bcells (leB body.length 2 ++ (body ++ List.replicate 0 0))) by rw [List.replicate_zero, List.append_nil]; rw [List.take_length] at ho; exact ho)
      clear ho hbw HO HO2
      go_wp2
      go_loopw [5] (fun v5 wr => ∃ j : Nat, body.length + j ≤ 504 ∧ Vl.Own wr B 5 v5 (2 + body.length + j) (bcells (leB body.length 2 ++ (body ++ List.replicate j 0))) ∧ Below B w wr) (fun v5 _ => 506 - slLen v5)
      case atStart => exact ⟨0, by omega, HOT.out, HBW.out⟩
      case round =>
        obtain ⟨j, hj, ho, hbw⟩ := hrel
        obtain ⟨av, cv, rfl⟩ := ho.form
        have hsz := Nat.le_trans hB0 hbw.size
        by_cases hlt : 2 + body.length + j < 506
        · have HO := Lib.hid ho
          have HBX := Lib.hid hbw
          clear ho hbw HOT
          go_wp2_with (at_builtin; refine wpList_append_own _ rfl _ _ 22 rfl B 5 i0 (.int .u8 0) 1 1 Tryz.underlying22 hi hz0 hz1 hz2 rfl (by decide) _ (2 + body.length + j) _ rfl (HO.out.alloc _) ⟨wr.heap.size, 0, none⟩ 1 1 [_] rfl rfl (new_one _ _ _ _ rfl) (Vl.one_cell rfl) (by unfold maxLen; omega) (by omega) (le_alloc hsz _) ?_)
          intro v3 w3 h3 hg3 _
          obtain ⟨o3, b3⟩ := push1 (0 : UInt8) (2 + body.length + (j + 1)) rfl rfl HBX.out hB0 HO.out h3 hg3
          rw [List.append_assoc, List.append_assoc, ← List.replicate_succ'] at o3
          obtain ⟨a3, c3, rfl⟩ := o3.form
          have HO3 := Lib.hid o3
          have HB3 := Lib.hid b3
          clear h3 hg3 o3 b3
          go_wp2
          go_roundw
          case rel => exact ⟨j + 1, by omega, HO3.out, HB3.out⟩
          case measure => simp [slLen]; omega
        · obtain rfl : j = 504 - body.length := by omega
          have hRL : (body ++ List.replicate (504 - body.length) 0).length = 504 := by simp; omega
          have hT : sealText body = leB body.length 2 ++ (body ++ List.replicate (504 - body.length) 0) := rfl
          have hS : sealSec t body = t :: (leB body.length 2 ++ (leB (crcOf (sealText body)) 4 ++ (body ++ List.replicate (504 - body.length) 0 ++ [t]))) := rfl
          rw [hT] at hS
          have h506 : 2 + body.length + (504 - body.length) = 506 := by omega
          rw [h506] at ho
          rw [h506]
          have HSS := Lib.hid hS
          have HBW4 := Lib.hid (show Below w.heap.size w wr from HB.out ▸ hbw)
          have hsw : w.heap.size ≤ wr.heap.size := hbw.size
          have hTB : BytesAt wr av (leB body.length 2 ++ (body ++ List.replicate (504 - body.length) 0)) := (BytesAt.of_own ho).2
          generalize body ++ List.replicate (504 - body.length) 0 = R at *
          have hTL : (leB body.length 2 ++ R).length = 506 := by rw [List.length_append, leB_length, hRL]
          have HC := refSum3_walk (leB body.length 2 ++ R) av cv wr hTB (by rw [hTL]; omega)
          rw [hTL] at HC
          have HCS := Lib.hid HC
          have HTB := Lib.hid hTB
          have HRL := Lib.hid hRL
          clear HC hTB hRL hTL ho hbw hT hS h506 HOT HBW hlt hj hsz
          obtain ⟨g, off, rfl, hgw, c0⟩ := HTB.out 0 (by rw [List.length_append, leB_length]; omega)
          obtain ⟨_, _, e1, _, c1⟩ := HTB.out 1 (by rw [List.length_append, leB_length]; omega)
          cases e1
          generalize hx0 : ((leB body.length 2 ++ R)[0]'(by rw [List.length_append, leB_length]; omega)) = x0 at c0
          generalize hx1 : ((leB body.length 2 ++ R)[1]'(by rw [List.length_append, leB_length]; omega)) = x1 at c1
          rw [Nat.add_zero] at c0
          have hx : leB body.length 2 = [x0, x1] := by rw [← hx0, ← hx1]; rfl
          have HXX := Lib.hid hx
          have hsl := crcOf_lt (leB body.length 2 ++ R)
          generalize crcOf (leB body.length 2 ++ R) = s at *
          have HSL := Lib.hid hsl
          clear hsl
          clear hx0 hx1 hx
          have hn0 := Vl.Own.nil wr wr.heap.size 5
          obtain ⟨B2, HB2⟩ : ∃ B2, Hid (B2 = wr.heap.size) := ⟨_, Lib.hid rfl⟩
          have hB2 : B2 ≤ wr.heap.size := Nat.le_of_eq HB2.out
          rw [← HB2.out] at hn0
          have ht := t.toNat_lt
          have l0 := x0.toNat_lt
          have l1 := x1.toNat_lt
          go_wp2_with fail
          refine HCS.out.mono ?_
          rintro e w4 ⟨rfl, rfl⟩
          go_wp2_with (at_builtin; refine wpList_append_own _ rfl _ _ 22 rfl B2 5 i0 (.int .u8 0) 1 1 Tryz.underlying22 hi hz0 hz1 hz2 rfl (by decide) _ 0 _ rfl (hn0.alloc _) ⟨w4.heap.size, 0, none⟩ 1 1 [_] rfl rfl (new_one _ _ _ _ rfl) (Vl.one_cell rfl) (by unfold maxLen; omega) (by omega) (le_alloc hB2 _) ?_)
          intro v5 w5 h5 hg5 _
          obtain ⟨o5, b5⟩ := push1 t 1 rfl (l := []) (by omega) (Below.refl B2 w4) hB2 hn0 h5 hg5
          obtain ⟨a5, e5, rfl⟩ := o5.form
          clear h5 hg5
          have hs5 := Nat.le_trans hB2 b5.size
          have d0 := (b5.cell (HB2.out ▸ hgw)).trans c0
          go_wp2_with (at_builtin; refine wpList_append_own _ rfl _ _ 22 rfl B2 5 i0 (.int .u8 0) 1 1 Tryz.underlying22 hi hz0 hz1 hz2 rfl (by decide) _ _ _ rfl (o5.alloc _) ⟨w5.heap.size, 0, none⟩ 1 1 [_] rfl rfl (new_one _ _ _ _ rfl) (Vl.one_cell rfl) (by unfold maxLen; omega) (by omega) (le_alloc hs5 _) ?_)
          intro v6 w6 h6 hg6 _
          obtain ⟨o6, b6⟩ := push1 x0 2 rfl (by omega) b5 hB2 o5 h6 hg6
          obtain ⟨a6, e6, rfl⟩ := o6.form
          clear h6 hg6 d0
          have hs6 := Nat.le_trans hB2 b6.size
          have d1 := (b6.cell (HB2.out ▸ hgw)).trans c1
          go_wp2_with (at_builtin; refine wpList_append_own _ rfl _ _ 22 rfl B2 5 i0 (.int .u8 0) 1 1 Tryz.underlying22 hi hz0 hz1 hz2 rfl (by decide) _ _ _ rfl (o6.alloc _) ⟨w6.heap.size, 0, none⟩ 1 1 [_] rfl rfl (new_one _ _ _ _ rfl) (Vl.one_cell rfl) (by unfold maxLen; omega) (by omega) (le_alloc hs6 _) ?_)
          intro v7 w7 h7 hg7 _
          obtain ⟨o7, b7⟩ := push1 x1 3 rfl (by omega) b6 hB2 o6 h7 hg7
          clear h7 hg7 d1
          rw [show [] ++ [t] ++ [x0] ++ [x1] = t :: leB body.length 2 by rw [HXX.out]; rfl] at o7
          have HO7 := Lib.hid o7
          have HB7 := Lib.hid b7
          clear o5 o6 o7 b5 b6 b7 hn0 c0 c1 HCS hs5 hs6
          go_wp2
          go_loopw [7, 8, 9] (fun v7 v8 v9 wr => ∃ k : Nat, k ≤ 4 ∧ v9 = .int .i64 k ∧ v7 = .int .i64 ((s / 256 ^ k : Nat) : Int) ∧ Vl.Own wr B2 5 v8 (3 + k) (bcells (t :: leB body.length 2 ++ (leB s 4).take k)) ∧ Below B2 w4 wr) (fun _ _ v9 _ => 4 - (intOf v9).toNat)
          case atStart => exact ⟨0, by omega, rfl, by rw [Nat.pow_zero, Nat.div_one], by rw [List.take_zero, List.append_nil]; exact HO7.out, HB7.out⟩
          case round =>
            obtain ⟨k, hk, rfl, rfl, ho, hbw⟩ := hrel
            obtain ⟨av, cv, rfl⟩ := ho.form
            have hsz := Nat.le_trans hB2 hbw.size
            by_cases hlt : k < 4
            · have HO := Lib.hid ho
              have HBX := Lib.hid hbw
              have HT := Lib.hid (leB4r s k hlt)
              have HPW := Lib.hid (show s / 256 ^ k / 256 = s / 256 ^ (k + 1) by rw [Nat.div_div_eq_div_mul, ← Nat.pow_succ])
              have hq : s / 256 ^ k < 4294967296 := Nat.lt_of_le_of_lt (Nat.div_le_self _ _) HSL.out
              clear ho hbw HO7 HB7
              generalize s / 256 ^ k = q at *
              go_wp2_with (at_builtin; refine wpList_append_own _ rfl _ _ 22 rfl B2 5 i0 (.int .u8 0) 1 1 Tryz.underlying22 hi hz0 hz1 hz2 rfl (by decide) _ (3 + k) _ rfl (HO.out.alloc _) ⟨wr.heap.size, 0, none⟩ 1 1 [_] rfl rfl (new_one _ _ _ _ rfl) (Vl.one_cell rfl) (by unfold maxLen; omega) (by omega) (le_alloc hsz _) ?_)
              intro v8 w8 h8 hg8 _
              obtain ⟨o8, b8⟩ := push1 (UInt8.ofNat (q % 256)) (3 + (k + 1)) rfl (by rw [byte_mod]) HBX.out hB2 HO.out h8 hg8
              rw [List.append_assoc, ← HT.out] at o8
              have HO8 := Lib.hid o8
              have HB8 := Lib.hid b8
              clear h8 hg8 o8 b8
              go_wp2
              go_roundw
              case rel => exact ⟨k + 1, by omega, by go_num, by rw [← HPW.out]; go_num, HO8.out, HB8.out⟩
              case measure => simp [intOf]; omega
            · obtain rfl : k = 4 := by omega
              have HO := Lib.hid ho
              have HBX := Lib.hid hbw
              clear ho hbw HO7 HB7 hlt hk
              generalize s / 256 ^ 4 = q4 at *
              rw [show ((4 : Nat) : Int) = 4 from rfl]
              have HO9 := Lib.hid (show Vl.Own wr B2 5 (.slice av (3 + 4) cv) (7 + 0) (bcells (t :: leB body.length 2 ++ leB s 4 ++ R.take 0)) by
                have := HO.out
                rw [show (leB s 4).take 4 = leB s 4 from List.take_of_length_le (by rw [leB_length]; omega)] at this
                rw [List.take_zero, List.append_nil]; exact this)
              clear HO
              go_wp2
              go_loopw [8, 10] (fun v8 v10 wr => ∃ k : Nat, k ≤ 504 ∧ v10 = .int .i64 ((2 + k : Nat) : Int) ∧ Vl.Own wr B2 5 v8 (7 + k) (bcells (t :: leB body.length 2 ++ leB s 4 ++ R.take k)) ∧ Below B2 w4 wr) (fun _ v10 _ => 506 - (intOf v10).toNat)
              case atStart => exact ⟨0, by omega, rfl, HO9.out, HBX.out⟩
              case round =>
                obtain ⟨k, hk, rfl, ho, hbw⟩ := hrel
                obtain ⟨av, cv, rfl⟩ := ho.form
                have hsz := Nat.le_trans hB2 hbw.size
                have HO := Lib.hid ho
                have HBY := Lib.hid hbw
                clear ho hbw HO9 HBX
                by_cases hlt : k < 504
                · have hkR : k < R.length := by rw [HRL.out]; exact hlt
                  obtain ⟨_, _, e2, _, c2⟩ := HTB.out (2 + k) (by rw [List.length_append, leB_length]; omega)
                  cases e2
                  have hgt : (leB body.length 2 ++ R)[2 + k]'(by rw [List.length_append, leB_length]; omega) = R[k] := by
                    rw [List.getElem_append_right (by rw [leB_length]; omega)]
                    congr 1
                    rw [leB_length]; omega
                  rw [hgt] at c2
                  have d2 := (HBY.out.cell (HB2.out ▸ hgw)).trans c2
                  have lk := R[k].toNat_lt
                  have HT := Lib.hid (List.take_succ_eq_append_getElem hkR)
                  generalize R[k] = x at *
                  clear hgt c2 hkR
                  go_wp2_with (at_builtin; refine wpList_append_own _ rfl _ _ 22 rfl B2 5 i0 (.int .u8 0) 1 1 Tryz.underlying22 hi hz0 hz1 hz2 rfl (by decide) _ (7 + k) _ rfl (HO.out.alloc _) ⟨wr.heap.size, 0, none⟩ 1 1 [_] rfl rfl (new_one _ _ _ _ rfl) (Vl.one_cell rfl) (by unfold maxLen; omega) (by omega) (le_alloc hsz _) ?_)
                  intro v8 w8 h8 hg8 _
                  obtain ⟨o8, b8⟩ := push1 x (7 + (k + 1)) rfl rfl HBY.out hB2 HO.out h8 hg8
                  rw [List.append_assoc, ← HT.out] at o8
                  have HO8 := Lib.hid o8
                  have HB8 := Lib.hid b8
                  clear h8 hg8 o8 b8
                  go_wp2
                  go_roundw
                  case rel => exact ⟨k + 1, by omega, by go_num, HO8.out, HB8.out⟩
                  case measure => simp [intOf]; omega
                · obtain rfl : k = 504 := by omega
                  have HT := Lib.hid (show R.take 504 = R from List.take_of_length_le (by rw [HRL.out]; omega))
                  clear hlt hk
                  go_wp2_with (at_builtin; refine wpList_append_own _ rfl _ _ 22 rfl B2 5 i0 (.int .u8 0) 1 1 Tryz.underlying22 hi hz0 hz1 hz2 rfl (by decide) _ (7 + 504) _ rfl (HO.out.alloc _) ⟨wr.heap.size, 0, none⟩ 1 1 [_] rfl rfl (new_one _ _ _ _ rfl) (Vl.one_cell rfl) (by unfold maxLen; omega) (by omega) (le_alloc hsz _) ?_)
                  intro v9 w9 h9 hg9 _
                  obtain ⟨o9, b9⟩ := push1 t 512 rfl (by omega) HBY.out hB2 HO.out h9 hg9
                  rw [HT.out, show t :: leB body.length 2 ++ leB s 4 ++ R ++ [t] = sealSec t body by rw [HSS.out]; simp only [List.cons_append, List.append_assoc]] at o9
                  obtain ⟨a9, c9, rfl⟩ := o9.form
                  have HEND := Lib.hid (show FormPost t body w _ w9 from ⟨a9, c9, rfl, (BytesAt.of_own o9).2, HBW4.out.trans (b9.mono (HB2.out ▸ hsw))⟩)
                  clear h9 hg9 o9 b9
                  go_wp2
                  go_ret
                  exact HEND.out
end Go.Proofs.YtikfphojehgpjaaGreatDoor
/- vellumref3: Open. -/
namespace Go.Proofs.YtikfphojehgpjaaGreatDoor
open Go.RowKit Vl
set_option linter.unusedVariables false

def ROpenPost (l : List UInt8) (w : World) (e : Ending) (w' : World) : Prop := Below w.heap.size w w' ∧
  ((openB l = none ∧ e = .returned (.tuple #[.slice none 0 0, .int .i64 30])) ∨ ∃ b a c, openB l = some b ∧ e = .returned (.tuple #[.slice a b.length c, .int .i64 0]) ∧ BytesAt w' a b)
theorem saidLen_at (l : List UInt8) (h : 3 ≤ l.length) : saidLen l = l[1].toNat + 256 * l[2].toNat := by
  rcases l with _ | ⟨a, _ | ⟨b, _ | ⟨c, m⟩⟩⟩
  · simp at h
  · simp at h
  · simp at h
  · simp [saidLen, leV]
set_option maxRecDepth 100000 in
set_option maxHeartbeats 4000000 in
theorem ropen_walk (l : List UInt8) (a : Option Addr) (c : Nat) (w : World) (h : BytesAt w a l) (hl : l.length = 512) :
    Calls Tryz.prog 174 #[.slice a 512 c] w (ROpenPost l w) := by
  obtain ⟨i0, hi, hz0, hz1, hz2⟩ := info_parts info5
  have H := Lib.hid h
  obtain ⟨g, off, rfl, hgw, c0⟩ := h 0 (by omega)
  obtain ⟨_, _, e1, _, c1⟩ := h 1 (by omega)
  cases e1
  obtain ⟨_, _, e1, _, c2⟩ := h 2 (by omega)
  cases e1
  rw [Nat.add_zero] at c0
  have HSL := Lib.hid (saidLen_at l (by omega))
  have HX0 := Lib.hid (show l.getD 0 0 = l[0] from (List.getElem_eq_getD (h := by omega) 0).symm)
  have HL := Lib.hid hl
  generalize l[0] = x0 at *
  generalize l[1] = x1 at *
  generalize l[2] = x2 at *
  have l0 := x0.toNat_lt
  have l1 := x1.toNat_lt
  have l2 := x2.toNat_lt
  have hn0 := Vl.Own.nil w w.heap.size 5
  obtain ⟨B, HB⟩ : ∃ B, Hid (B = w.heap.size) := ⟨_, Lib.hid rfl⟩
  have hB0 : B ≤ w.heap.size := Nat.le_of_eq HB.out
  rw [← HB.out] at hn0
  clear h hl
  generalize hnn : x1.toNat + 256 * x2.toNat = n at *
  have HNN := Lib.hid (show (x1.toNat : Int) + 256 * (x2.toNat : Int) = (n : Int) by omega)
  go_enter Tryz.func174, Tryz.ntmps174
  go_upto_region 3 with fail
  refine wp_canon (by kernel_rfl) (by kernel_rfl) ?_
  go_wp2
  refine ⟨rfl, ?_⟩
  go_upto_region 4 with fail
  rw [HNN.out]
  have hbw0 : Below B w w.drew := (Below.refl B w).drew
  have HWD := Lib.hid (show w.drew.heap.size = w.heap.size from rfl)
  have c00 := c0
  replace c0 : w.drew.cell? ⟨g, off, none⟩ = some (.int .u8 x0.toNat) := c0
  replace hn0 : Vl.Own w.drew B 5 (.slice none 0 0) 0 [] := Vl.Own.nil _ _ _
  have HBW0 := Lib.hid hbw0
  have HC0 := Lib.hid c00
  clear c1 c2 hbw0 c00
  generalize w.drew = w1 at *
  by_cases hbad : n > 504 ∨ 2 < x0.toNat
  · have hno : openB l = none := by
      unfold openB
      rw [HX0.out, HSL.out]
      exact if_neg (fun hh => by omega)
    have HEND := Lib.hid (show ROpenPost l w (.returned (.tuple #[.slice none 0 0, .int .i64 30])) w1 from ⟨HB.out ▸ HBW0.out, .inl ⟨hno, rfl⟩⟩)
    clear hno
    by_cases hb1 : n > 504
    · go_wp2
      refine bodyPost_ret (results_tmp2 rfl _ _ _) rfl ?_
      exact HEND.out
    · have hb2 : 2 < x0.toNat := by omega
      go_wp2
      refine bodyPost_ret (results_tmp2 rfl _ _ _) rfl ?_
      exact HEND.out
  · have hb1 : n ≤ 504 := by omega
    have hb2 : x0.toNat ≤ 2 := by omega
    have HB1 := Lib.hid hbad
    clear hbad
    go_wp2
    go_loopw [5, 6] (fun v5 v6 wr => ∃ k : Nat, k ≤ n ∧ v6 = .int .i64 k ∧ Vl.Own wr B 5 v5 k (bcells ((l.drop 7).take k)) ∧ Below B w wr) (fun _ v6 _ => n - (intOf v6).toNat)
    case atStart => exact ⟨0, by omega, rfl, hn0, HBW0.out⟩
    case round =>
      obtain ⟨k, hk, rfl, ho, hbw⟩ := hrel
      obtain ⟨av, cv, rfl⟩ := ho.form
      have hsz := Nat.le_trans hB0 hbw.size
      have HO := Lib.hid ho
      have HBX := Lib.hid hbw
      clear ho hbw hn0 c0
      by_cases hlt : k < n
      · have hk7 : 7 + k < l.length := by rw [HL.out]; omega
        obtain ⟨_, _, e2, _, c2⟩ := H.out (7 + k) hk7
        cases e2
        have hgt : l[7 + k] = (l.drop 7)[k]'(by rw [List.length_drop]; omega) := by rw [List.getElem_drop]
        rw [hgt] at c2
        have d2 := (HBX.out.cell (HB.out ▸ hgw)).trans c2
        have HT := Lib.hid (List.take_succ_eq_append_getElem (show k < (l.drop 7).length by rw [List.length_drop]; omega))
        have lk := ((l.drop 7)[k]'(by rw [List.length_drop]; omega)).toNat_lt
        generalize ((l.drop 7)[k]'(by rw [List.length_drop]; omega)) = x at *
        clear hgt c2 hk7
        go_wp2_with (at_builtin; refine wpList_append_own _ rfl _ _ 22 rfl B 5 i0 (.int .u8 0) 1 1 Tryz.underlying22 hi hz0 hz1 hz2 rfl (by decide) _ k _ rfl (HO.out.alloc _) ⟨wr.heap.size, 0, none⟩ 1 1 [_] rfl rfl (new_one _ _ _ _ rfl) (Vl.one_cell rfl) (by unfold maxLen; omega) (by omega) (le_alloc hsz _) ?_)
        intro v8 w8 h8 hg8 _
        obtain ⟨o8, b8⟩ := push1 x (k + 1) rfl rfl HBX.out hB0 HO.out h8 hg8
        rw [← HT.out] at o8
        have HO8 := Lib.hid o8
        have HB8 := Lib.hid b8
        clear h8 hg8 o8 b8
        go_wp2
        go_roundw
        case rel => exact ⟨k + 1, by omega, by go_num, HO8.out, HB8.out⟩
        case measure => simp [intOf]; omega
      · obtain rfl : k = n := by omega
        have hbd : (l.drop 7).take k = saidBody l := by unfold saidBody; rw [HSL.out]
        have hO := HO.out
        rw [hbd] at hO
        have hkl : k = (saidBody l).length := (BytesAt.of_own hO).1
        have hBB := (BytesAt.of_own hO).2
        have HBL := Lib.hid hkl
        generalize hsb : saidBody l = b at *
        have HSB := Lib.hid hsb
        clear hsb
        have HFM := form_walk x0 b av cv wr hBB (by omega)
        rw [← HBL.out] at HFM
        have HF := Lib.hid HFM
        have hgw2 : g < wr.heap.size := Nat.lt_of_lt_of_le hgw HBX.out.size |> fun h => h
        have d0 : wr.cell? ⟨g, off, none⟩ = some (.int .u8 x0.toNat) := (HBX.out.cell (HB.out ▸ hgw)).trans HC0.out
        have HBBX := Lib.hid hBB
        clear hO hBB HFM hlt hk HO hbd hkl
        go_wp2_with fail
        refine HF.out.mono ?_
        rintro e w5 ⟨a5, c5, rfl, hb5, hw5⟩
        have HB5 := Lib.hid hb5
        have HW5 := Lib.hid ((HB.out ▸ HBX.out).trans (hw5.mono HBX.out.size))
        have hSL : (sealSec x0 b).length = 512 := sealSec_length _ (by rw [← HBL.out]; exact hb1)
        have HSM := same3_walk (sealSec x0 b) l a5 (some ⟨g, off, none⟩) c5 c w5 hb5 (H.out.below HW5.out) (by omega) (by rw [HL.out]; omega)
        rw [hSL, HL.out] at HSM
        have HS := Lib.hid HSM
        have HBBY := Lib.hid (HBBX.out.below hw5)
        clear hb5 hw5 hSL HSM HF
        go_wp2_with fail
        refine HS.out.mono ?_
        rintro e w6 ⟨rfl, hw6⟩
        have HW6 := Lib.hid (HW5.out.trans (hw6.mono HW5.out.size))
        have HBBZ := Lib.hid (HBBY.out.below hw6)
        clear hw6 HS
        by_cases heq : sealSec x0 b = l
        · have hdec : decide (sealSec x0 b = l) = true := decide_eq_true heq
          rw [hdec]
          have hyes : openB l = some b := by
            unfold openB
            rw [HX0.out, HSL.out, HSB.out]
            exact if_pos ⟨by omega, hb1, heq.symm⟩
          have HEND := Lib.hid (show ROpenPost l w (.returned (.tuple #[.slice av b.length cv, .int .i64 0])) w6 from ⟨HW6.out, .inr ⟨b, av, cv, hyes, rfl, HBBZ.out⟩⟩)
          rw [← HBL.out] at HEND
          clear heq hdec hyes
          go_wp2
          refine bodyPost_ret (results_tmp2 rfl _ _ _) rfl ?_
          exact HEND.out
        · have hdec : decide (sealSec x0 b = l) = false := decide_eq_false heq
          rw [hdec]
          have hno : openB l = none := by
            unfold openB
            rw [HX0.out, HSL.out, HSB.out]
            exact if_neg (fun hh => heq hh.2.2.symm)
          have HEND := Lib.hid (show ROpenPost l w (.returned (.tuple #[.slice none 0 0, .int .i64 30])) w6 from ⟨HW6.out, .inl ⟨hno, rfl⟩⟩)
          clear heq hdec hno
          go_wp2
          refine bodyPost_ret (results_tmp2 rfl _ _ _) rfl ?_
          exact HEND.out
end Go.Proofs.YtikfphojehgpjaaGreatDoor
/- vellumref4: number; vellumref2: take. -/
namespace Go.Proofs.YtikfphojehgpjaaGreatDoor
open Go.RowKit Vl
set_option linter.unusedVariables false

/-- A number's bytes. -/
def cutB (l : List UInt8) (at_ n : Nat) : List UInt8 := (l.drop at_).take n
theorem cutB_length {l : List UInt8} {at_ n : Nat} (h : at_ + n ≤ l.length) : (cutB l at_ n).length = n := by unfold cutB; rw [List.length_take, List.length_drop]; omega
theorem leV_drop_le (l : List UInt8) (k : Nat) : leV (l.drop k) ≤ leV l := by
  induction k generalizing l with
  | zero => exact Nat.le_refl _
  | succ k ih =>
    cases l with
    | nil => exact Nat.le_refl _
    | cons c l =>
      show leV (l.drop k) ≤ c.toNat + 256 * leV l
      have := ih l
      omega
theorem leV_stepR (l : List UInt8) (k : Nat) (h : k < l.length) : leV (l.drop k) = leV (l.drop (k + 1)) * 256 + l[k].toNat := by
  rw [List.drop_eq_getElem_cons h]
  show l[k].toNat + 256 * leV (l.drop (k + 1)) = _
  omega
theorem cut_at {w : World} {a : Option Addr} {l : List UInt8} (h : BytesAt w a l) {at_ n k : Nat} (hf : at_ + n ≤ l.length) (hk : k < n) :
    ∃ g off, a = some ⟨g, off, none⟩ ∧ g < w.heap.size ∧ w.cell? ⟨g, off + (at_ + k), none⟩ = some (.int .u8 ((cutB l at_ n)[k]'(by rw [cutB_length hf]; exact hk)).toNat) := by
  obtain ⟨g, off, h1, h2, h3⟩ := h (at_ + k) (by omega)
  refine ⟨g, off, h1, h2, ?_⟩
  rw [h3]
  unfold cutB
  rw [List.getElem_take, List.getElem_drop]
set_option maxRecDepth 100000 in
set_option maxHeartbeats 1000000 in
theorem refnum_walk (l : List UInt8) (a : Option Addr) (c at_ n len : Nat) (w : World) (h : BytesAt w a l) (hll : l.length = len) (hf : at_ + n ≤ len) (hl : len ≤ 100000) (hv : leV (cutB l at_ n) < 18014398509481984) :
    Calls Tryz.prog 175 #[.slice a len c, .int .i64 at_, .int .i64 n] w fun e w' => e = .returned (.int .i64 (leV (cutB l at_ n))) ∧ w' = w := by
  have H := Lib.hid h
  have HL := Lib.hid hll
  have HV := Lib.hid hv
  clear h hll hv
  go_enter Tryz.func175, Tryz.ntmps175
  go_wp2
  go_loopw [7, 8] (fun v7 v8 wr => ∃ j : Nat, j ≤ n ∧ v8 = .int .i64 ((n : Int) - 1 - j) ∧ v7 = .int .i64 (leV ((cutB l at_ n).drop (n - j))) ∧ wr = w) (fun _ v8 _ => (intOf v8 + 1).toNat)
  case atStart => exact ⟨0, by omega, by go_num, by rw [Nat.sub_zero, List.drop_eq_nil_of_le (by rw [cutB_length (by rw [HL.out]; exact hf)]; omega)]; rfl, rfl⟩
  case round =>
    obtain ⟨j, hj, rfl, rfl, rfl⟩ := hrel
    by_cases hlt : j < n
    · obtain ⟨g, off, rfl, hg, hc⟩ := cut_at H.out (at_ := at_) (n := n) (k := n - 1 - j) (by rw [HL.out]; exact hf) (by omega)
      have hs := leV_stepR (cutB l at_ n) (n - 1 - j) (by rw [cutB_length (by rw [HL.out]; exact hf)]; omega)
      rw [show n - 1 - j + 1 = n - j by omega] at hs
      have hb1 := leV_drop_le (cutB l at_ n) (n - 1 - j)
      have hvv := HV.out
      have HS := Lib.hid hs
      have hx := ((cutB l at_ n)[n - 1 - j]'(by rw [cutB_length (by rw [HL.out]; exact hf)]; omega)).toNat_lt
      generalize ((cutB l at_ n)[n - 1 - j]'(by rw [cutB_length (by rw [HL.out]; exact hf)]; omega)) = x at *
      generalize hq : leV ((cutB l at_ n).drop (n - j)) = q at *
      have hq2 : q * 256 + x.toNat < 18014398509481984 := by omega
      have HQ := Lib.hid hq
      clear hs hb1 hvv hq
      have hcc : wr.cell? ⟨g, off + (at_ + (n - 1 - j)), none⟩ = some (.int .u8 x.toNat) := hc
      have hi1 : (at_ : Int) + ((n : Int) - 1 - j) = ((at_ + (n - 1 - j) : Nat) : Int) := by omega
      have hi2 : at_ + (n - 1 - j) < len := by omega
      go_wp2
      go_roundw
      case rel => exact ⟨j + 1, by omega, by go_num, by rw [show n - (j + 1) = n - 1 - j by omega, HS.out]; go_num, trivial⟩
      case measure => simp [intOf]; omega
    · obtain rfl : j = n := by omega
      rw [Nat.sub_self, List.drop_zero]
      go_wp2
      go_ret
      exact ⟨rfl, rfl⟩
set_option maxRecDepth 100000 in
set_option maxHeartbeats 1000000 in
theorem reftake_walk (l : List UInt8) (a : Option Addr) (c at_ n len : Nat) (w : World) (h : BytesAt w a l) (hll : l.length = len) (hf : at_ + n ≤ len) (hl : len ≤ 100000) (hv : leV (cutB l at_ n) < 18014398509481984) :
    Calls Tryz.prog 123 #[.slice a len c, .int .i64 at_, .int .i64 n] w fun e w' => e = .returned (.int .i64 (leV (cutB l at_ n))) ∧ w' = w := by
  have H := Lib.hid h
  have HL := Lib.hid hll
  have HV := Lib.hid hv
  clear h hll hv
  go_enter Tryz.func123, Tryz.ntmps123
  go_wp2
  go_loopw [7, 8] (fun v7 v8 wr => ∃ j : Nat, j ≤ n ∧ v8 = .int .i64 ((n : Int) - 1 - j) ∧ v7 = .int .i64 (leV ((cutB l at_ n).drop (n - j))) ∧ wr = w) (fun _ v8 _ => (intOf v8 + 1).toNat)
  case atStart => exact ⟨0, by omega, by go_num, by rw [Nat.sub_zero, List.drop_eq_nil_of_le (by rw [cutB_length (by rw [HL.out]; exact hf)]; omega)]; rfl, rfl⟩
  case round =>
    obtain ⟨j, hj, rfl, rfl, rfl⟩ := hrel
    by_cases hlt : j < n
    · obtain ⟨g, off, rfl, hg, hc⟩ := cut_at H.out (at_ := at_) (n := n) (k := n - 1 - j) (by rw [HL.out]; exact hf) (by omega)
      have hs := leV_stepR (cutB l at_ n) (n - 1 - j) (by rw [cutB_length (by rw [HL.out]; exact hf)]; omega)
      rw [show n - 1 - j + 1 = n - j by omega] at hs
      have hb1 := leV_drop_le (cutB l at_ n) (n - 1 - j)
      have hvv := HV.out
      have HS := Lib.hid hs
      have hx := ((cutB l at_ n)[n - 1 - j]'(by rw [cutB_length (by rw [HL.out]; exact hf)]; omega)).toNat_lt
      generalize ((cutB l at_ n)[n - 1 - j]'(by rw [cutB_length (by rw [HL.out]; exact hf)]; omega)) = x at *
      generalize hq : leV ((cutB l at_ n).drop (n - j)) = q at *
      have hq2 : q * 256 + x.toNat < 18014398509481984 := by omega
      have HQ := Lib.hid hq
      have hq3 : ((18014398509481984 : Int) < (q : Int)) = False := by simp; omega
      clear hs hb1 hvv hq
      have hcc : wr.cell? ⟨g, off + (at_ + (n - 1 - j)), none⟩ = some (.int .u8 x.toNat) := hc
      have hi1 : (at_ : Int) + ((n : Int) - 1 - j) = ((at_ + (n - 1 - j) : Nat) : Int) := by omega
      have hi2 : at_ + (n - 1 - j) < len := by omega
      go_wp2
      go_roundw
      case rel => exact ⟨j + 1, by omega, by go_num, by rw [show n - (j + 1) = n - 1 - j by omega, HS.out]; go_num, trivial⟩
      case measure => simp [intOf]; omega
    · obtain rfl : j = n := by omega
      rw [Nat.sub_self, List.drop_zero]
      go_wp2
      go_ret
      exact ⟨rfl, rfl⟩
end Go.Proofs.YtikfphojehgpjaaGreatDoor
