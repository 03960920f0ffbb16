/- The reference's Pack. -/
import Derived.Test.YtenpihkfghfpaaaDoorDPacked
namespace Go.Proofs.YtenpihkfghfpaaaDoor
open Go.RowKit Vl
set_option linter.unusedVariables false

/-- The first k items are right, and what follows from it. -/
structure PK (L : List Itm) (k : Nat) : Prop where
  right : rightFrom [] (L.take k) = true
  fits : ∀ x ∈ L.take k, FitItm x
  rise : Rising L k
theorem PK.start (L : List Itm) : PK L 0 := ⟨rfl, by simp, fun i j _ _ _ h => by omega⟩
theorem right_above {prev : List Itm} {x : Itm} (h : rightAt prev x = true) : aboveB prev x = true := by
  cases hp : partsB x.path with
  | none => rw [rightAt_none hp] at h; cases h
  | some ps =>
    rw [rightAt_some hp] at h
    simp only [Bool.and_eq_true] at h
    exact h.1.1
theorem PK.next {L : List Itm} {k : Nat} (h : PK L k) (hk : k < L.length) (hr : rightAt (L.take k) L[k] = true) : PK L (k + 1) ∧ FitItm L[k] := by
  have ht : L.take (k + 1) = L.take k ++ [L[k]] := List.take_succ_eq_append_getElem hk
  have hfit : FitItm L[k] := fit_of_right hr (fun y hy => (h.fits y hy).path)
  refine ⟨⟨?_, ?_, ?_⟩, hfit⟩
  · rw [ht, rightFrom_append, h.right]
    simp [rightFrom, hr]
  · rw [ht]
    intro x hx
    rcases List.mem_append.1 hx with hx | hx
    · exact h.fits x hx
    · rw [List.mem_singleton.1 hx]; exact hfit
  · intro i j hi hj hij hjk
    by_cases e : j = k
    · subst e
      have hab := right_above hr
      have h0 : 0 < j := by omega
      unfold aboveB at hab
      rw [take_last hk h0] at hab
      simp only at hab
      by_cases e2 : i = j - 1
      · subst e2; exact hab
      · exact ltB_trans (h.rise i (j - 1) hi (by omega) (by omega) (by omega)) hab
    · exact h.rise i j hi hj hij (by omega)
theorem PK.stop {L : List Itm} {k : Nat} (h : PK L k) (hk : k < L.length) (hr : rightAt (L.take k) L[k] = false) : rightAll L = false := by
  have ht : L = L.take k ++ (L[k] :: L.drop (k + 1)) := by
    conv => lhs; rw [← List.take_append_drop k L, List.drop_eq_getElem_cons hk]
  unfold rightAll
  rw [ht, rightFrom_append, h.right]
  simp [rightFrom, hr]
theorem PK.all {L : List Itm} {k : Nat} (h : PK L k) (hk : k = L.length) : rightAll L = true := by
  have := h.right
  rw [hk, List.take_length] at this
  exact this

def packLen (x : Itm) : Nat := 3 + x.path.length + (if x.kind = 1 then 12 + 8 * x.runs.length + x.data.length else 0) + (if x.kind = 3 ∨ x.kind = 4 then 2 + x.target.length else 0)
theorem packItm_length (x : Itm) : (packItm x).length = packLen x := by
  unfold packItm packLen
  simp only [List.length_cons, List.length_append, leB_length]
  split
  · split
    · simp only [List.length_append, leB_length, packRuns_len]; omega
    · simp only [List.length_append, leB_length, packRuns_len, List.length_nil]; omega
  · split
    · simp only [List.length_append, leB_length, List.length_nil]; omega
    · simp only [List.length_nil]; omega
theorem packLen_le {x : Itm} (h : FitItm x) : packLen x ≤ 9000000 := by
  have h1 := h.path
  have h2 := h.target
  unfold packLen
  by_cases k : x.kind = 1
  · obtain ⟨_, hf⟩ := h.file k
    obtain ⟨q1, q2, q3, q4, q5, q6, q7⟩ := fileB_facts hf
    rw [if_pos k]
    split <;> omega
  · rw [if_neg k]
    split <;> omega
theorem packAll_length (L : List Itm) : (packAll L).length = 17 + (L.flatMap packItm).length := by
  unfold packAll packBody
  simp only [List.length_append, leB_length]
  show 8 + _ + 1 + 4 + 4 = _
  omega
theorem flat_succ {L : List Itm} {k : Nat} (hk : k < L.length) : (L.take (k + 1)).flatMap packItm = (L.take k).flatMap packItm ++ packItm L[k] := by
  rw [List.take_succ_eq_append_getElem hk, List.flatMap_append]
  simp
theorem flat_le {L : List Itm} (h : ∀ x ∈ L, FitItm x) : (L.flatMap packItm).length ≤ 9000000 * L.length := by
  induction L with
  | nil => simp
  | cons x L ih =>
    have h1 := packLen_le (h x (by simp))
    have h2 := ih (fun y hy => h y (by simp [hy]))
    rw [List.flatMap_cons, List.length_append, packItm_length, List.length_cons]
    omega

/-- What a call of Pack leaves. -/
def PackPost (L : List Itm) (w : World) (e : Ending) (w' : World) : Prop :=
  ∃ v, e = .returned (.tuple #[v, .int .i64 (packSpec L).2]) ∧ Own w' w.heap.size 5 v (packSpec L).1.length (bcells (packSpec L).1) ∧ Below w.heap.size w w'
theorem pack_bad {L : List Itm} {n : Nat} (h : packSpec L = ([], n)) {w w' : World} (hb : Below w.heap.size w w') : PackPost L w (.returned (.tuple #[.slice none 0 0, .int .i64 n])) w' := by
  refine ⟨.slice none 0 0, by rw [h], ?_, hb⟩
  rw [h]; exact Own.nil _ _ _
theorem pack_good {L : List Itm} {b : List UInt8} (h : packSpec L = (b, 0)) {w w' : World} {v : Value} (ho : Own w' w.heap.size 5 v b.length (bcells b)) (hb : Below w.heap.size w w') : PackPost L w (.returned (.tuple #[v, .int .i64 0])) w' := by
  refine ⟨v, by rw [h]; rfl, ?_, hb⟩
  rw [h]; exact ho
theorem spec_long {L : List Itm} (h : 4096 < L.length) : packSpec L = ([], 7) := by unfold packSpec; rw [if_pos h]
theorem spec_wrong {L : List Itm} (h : ¬ 4096 < L.length) (hr : rightAll L = false) : packSpec L = ([], 150) := by unfold packSpec; rw [if_neg h, if_pos hr]
theorem spec_great {L : List Itm} (h : ¬ 4096 < L.length) (hr : rightAll L = true) (hl : 4194304 < (packAll L).length) : packSpec L = ([], 7) := by
  unfold packSpec; rw [if_neg h, if_neg (by rw [hr]; decide), if_pos hl]
theorem spec_good {L : List Itm} (h : ¬ 4096 < L.length) (hr : rightAll L = true) (hl : ¬ 4194304 < (packAll L).length) : packSpec L = (packAll L, 0) := by
  unfold packSpec; rw [if_neg h, if_neg (by rw [hr]; decide), if_neg hl]

set_option maxRecDepth 100000 in
set_option maxHeartbeats 4000000 in
theorem refPack_walk (L : List Itm) (a : Option Addr) (c : Nat) (w : World) (h : ItemsAt w a L) (hs : SizeAll L) : Calls Tryd.prog 8 #[.slice a L.length c] w (PackPost L w) := by
  obtain ⟨i0, hi, hz0, hz1, hz2⟩ := info_parts info5
  have hLn := hs.1
  by_cases hlong : 4096 < L.length
  · have HP := Lib.hid (spec_long hlong)
    have b1 : decide ((4096 : Int) < (L.length : Int)) = true := decide_eq_true (by omega)
    go_enter Tryd.func8, Tryd.ntmps8
    go_wp2
    go_ret2
    exact pack_bad HP.out (Below.refl _ _)
  · have b1 : decide ((4096 : Int) < (L.length : Int)) = false := decide_eq_false (by omega)
    have H := Lib.hid h
    have HS := Lib.hid hs
    have HLG := Lib.hid hlong
    have hL2 : L.length ≤ 4096 := by omega
    clear h hs hlong
    go_enter Tryd.func8, Tryd.ntmps8
    go_wp2
    go_loopw [4, 5] (fun v4 v5 wr => ∃ k : Nat, k ≤ L.length ∧ v5 = .int .i64 k ∧ v4 = .int .i64 (17 + ((L.take k).flatMap packItm).length : Nat) ∧ PK L k ∧ Below w.heap.size w wr) (fun _ v5 _ => L.length - (intOf v5).toNat)
    case atStart => exact ⟨0, by omega, rfl, rfl, PK.start L, Below.refl _ _⟩
    case round =>
      obtain ⟨k, hk, rfl, rfl, hpk, hb⟩ := hrel
      have HPK := Lib.hid hpk
      have HB := Lib.hid hb
      have hfl : ((L.take k).flatMap packItm).length ≤ 36864000000 := by
        have := flat_le hpk.fits
        rw [List.length_take] at this
        omega
      clear hpk hb
      by_cases hlt : k < L.length
      · have HR := Lib.hid (refRight_walk L a c k wr (H.out.below HB.out) HS.out hlt HPK.out.rise)
        have HNX := Lib.hid (fun hr => HPK.out.next hlt hr)
        have HST := Lib.hid (fun hr => HPK.out.stop hlt hr)
        have HLEN := Lib.hid (show ((L.take (k + 1)).flatMap packItm).length = ((L.take k).flatMap packItm).length + packLen L[k] by rw [flat_succ hlt, List.length_append, packItm_length])
        obtain ⟨g, off, ra, rc, da, dc, hit⟩ := H.out k hlt
        have e := hit.addr
        subst e
        have HIT := Lib.hid (fun wr hb => hit.below (w' := wr) hb)
        clear hit
        generalize rightAt (L.take k) L[k] = q at *
        generalize ((L.take k).flatMap packItm).length = n at *
        generalize L[k] = x at *
        cases q
        · have HF := Lib.hid (spec_wrong HLG.out (HST.out rfl))
          go_wp2_with fail
          refine HR.out.mono ?_
          rintro e w2 ⟨rfl, hb2⟩
          have HB2 := Lib.hid (HB.out.trans (hb2.mono HB.out.size))
          clear hb2
          go_wp2
          go_ret2
          exact pack_bad HF.out HB2.out
        · obtain ⟨hpk2, hfit⟩ := HNX.out rfl
          have HPK2 := Lib.hid hpk2
          have hle := packLen_le hfit
          have HKD := Lib.hid hfit.kind
          have HFL := Lib.hid hfit.file
          have hx1 := hfit.path
          have hx2 := hfit.target
          clear hpk2 hfit HNX HST
          go_wp2_with fail
          refine HR.out.mono ?_
          rintro e w2 ⟨rfl, hb2⟩
          have HB2 := Lib.hid (HB.out.trans (hb2.mono HB.out.size))
          clear hb2
          have hit2 := HIT.out w2 HB2.out
          have c0 := hit2.c0
          have c1 := hit2.c1
          have c2 := hit2.c2
          have c3 := hit2.c3
          have c4 := hit2.c4
          have c5 := hit2.c5
          clear hit2
          have hps : (strOf x.path).size = x.path.length := strOf_size _
          by_cases k1 : x.kind = 1
          · obtain ⟨_, hfb⟩ := HFL.out k1
            obtain ⟨q1, q2, q3, q4, q5, q6, q7⟩ := fileB_facts hfb
            have hdl : x.data.length ≤ 8459776 := by omega
            have d1 : (x.kind == 1) = true := by rw [k1]; rfl
            have d2 : (x.kind == 3) = false := by rw [k1]; rfl
            have d3 : (x.kind == 4) = false := by rw [k1]; rfl
            have HK1 := Lib.hid k1
            clear hfb q1 q2 q3 q5 q6 q7 k1
            go_wp2
            go_roundw
            case rel => exact ⟨k + 1, by omega, by go_num, by rw [HLEN.out]; exact congrArg (Value.int .i64) (by unfold packLen; rw [if_pos HK1.out, if_neg (by have := HK1.out; omega)]; omega), HPK2.out, HB2.out.alloc HB2.out.size _⟩
            case measure => simp [intOf]; omega
          · have d1 : (x.kind == 1) = false := by rw [beq_eq_false_iff_ne]; exact k1
            by_cases k3 : x.kind = 3
            · have d2 : (x.kind == 3) = true := by rw [k3]; rfl
              have HK3 := Lib.hid k3
              clear k1 k3
              go_wp2
              go_roundw
              case rel => exact ⟨k + 1, by omega, by go_num, by rw [HLEN.out]; exact congrArg (Value.int .i64) (by unfold packLen; rw [if_neg (by have := HK3.out; omega), if_pos (.inl HK3.out)]; omega), HPK2.out, HB2.out.alloc HB2.out.size _⟩
              case measure => simp [intOf]; omega
            · have d2 : (x.kind == 3) = false := by rw [beq_eq_false_iff_ne]; exact k3
              by_cases k4 : x.kind = 4
              · have d3 : (x.kind == 4) = true := by rw [k4]; rfl
                have HK4 := Lib.hid k4
                clear k1 k3 k4
                go_wp2
                go_roundw
                case rel => exact ⟨k + 1, by omega, by go_num, by rw [HLEN.out]; exact congrArg (Value.int .i64) (by unfold packLen; rw [if_neg (by have := HK4.out; omega), if_pos (.inr HK4.out)]; omega), HPK2.out, HB2.out.alloc HB2.out.size _⟩
                case measure => simp [intOf]; omega
              · have d3 : (x.kind == 4) = false := by rw [beq_eq_false_iff_ne]; exact k4
                have HK1 := Lib.hid k1
                have HK3 := Lib.hid k3
                have HK4 := Lib.hid k4
                clear k1 k3 k4
                go_wp2
                go_roundw
                case rel => exact ⟨k + 1, by omega, by go_num, by rw [HLEN.out]; exact congrArg (Value.int .i64) (by unfold packLen; rw [if_neg HK1.out, if_neg (by rintro (h | h); exact HK3.out h; exact HK4.out h)]; omega), HPK2.out, HB2.out.alloc HB2.out.size _⟩
                case measure => simp [intOf]; omega
      · obtain rfl : k = L.length := by omega
        have HALL := Lib.hid (HPK.out.all rfl)
        have HFIT := Lib.hid (show ∀ x ∈ L, FitItm x by have := HPK.out.fits; rw [List.take_length] at this; exact this)
        rw [List.take_length] at hfl ⊢
        obtain ⟨m, hm⟩ : ∃ m, m = 17 + (L.flatMap packItm).length := ⟨_, rfl⟩
        rw [← hm]
        have HM := Lib.hid hm
        by_cases hg : 4194304 < m
        · have HF := Lib.hid (spec_great HLG.out HALL.out (by rw [packAll_length, ← hm]; exact hg))
          have d1 : decide ((4194304 : Int) < (m : Int)) = true := decide_eq_true (by omega)
          clear hm
          go_wp2
          go_ret2
          exact pack_bad HF.out HB.out
        · have HG := Lib.hid (spec_good HLG.out HALL.out (by rw [packAll_length, ← hm]; exact hg))
          have d1 : decide ((4194304 : Int) < (m : Int)) = false := decide_eq_false (by omega)
          have hnl : (L.flatMap packItm).length ≤ 4194304 := by omega
          have HPRE := Lib.hid (show ∀ k, k ≤ L.length → ((L.take k).flatMap packItm).length ≤ (L.flatMap packItm).length by
            intro k hk
            conv => rhs; rw [← List.take_append_drop k L]
            rw [List.flatMap_append, List.length_append]
            omega)
          have hwB : w.heap.size ≤ wr.heap.size := HB.out.size
          clear hm hg hfl hk hlt
          go_wp2
          go_loopw [7, 8] (fun v7 v8 wr => ∃ k : Nat, k ≤ L.length ∧ v8 = .int .i64 k ∧ Own wr w.heap.size 5 v7 (magicB ++ (L.take k).flatMap packItm).length (bcells (magicB ++ (L.take k).flatMap packItm)) ∧ Below w.heap.size w wr) (fun _ v8 _ => L.length - (intOf v8).toNat)
          case atStart => exact ⟨0, by omega, rfl, by
            have := World.ownsRow_lit (base := w.heap.size) (e := 5) (size := 1) wr #[.int .u8 118, .int .u8 108, .int .u8 109, .int .u8 97, .int .u8 114, .int .u8 99, .int .u8 104, .int .u8 1] 8 hwB (by decide) rfl
            simpa [magicB, bcells, Own] using this, HB.out.alloc HB.out.size _⟩
          case round =>
            obtain ⟨k, hk, rfl, ho, hb⟩ := hrel
            have HO := Lib.hid ho
            have HB2 := Lib.hid hb
            clear ho hb
            by_cases hlt : k < L.length
            · obtain ⟨g, off, ra, rc, da, dc, hit0⟩ := H.out k hlt
              have hit := hit0.below HB2.out
              have e := hit.addr
              subst e
              have c0 := hit.c0
              have c1 := hit.c1
              have c2 := hit.c2
              have c3 := hit.c3
              have c4 := hit.c4
              have c5 := hit.c5
              have hsucc := flat_succ hlt
              have hk1 := HPRE.out (k + 1) (by omega)
              have hlen2 : (magicB ++ (L.take k).flatMap packItm ++ packItm L[k]).length ≤ 4194312 := by
                rw [List.append_assoc, ← hsucc, List.length_append]
                show 8 + _ ≤ _
                omega
              have HSUC := Lib.hid hsucc
              have HPW := Lib.hid (packed_walk w wr w.heap.size _ _ _ L[k] ra da rc dc ⟨rfl, hit0.runs, hit0.data⟩ (HFIT.out _ (List.getElem_mem hlt)) HB2.out (Nat.le_refl _) HB2.out.size HO.out (by rw [List.length_append] at hlen2; omega))
              have HVB := Lib.hid (show ∀ j, _ → w.heap.size ≤ j from fun j hj => (HO.out.block hj).1)
              clear hit hit0 hsucc hk1 hlen2
              generalize L[k] = x at *
              go_wp2_with fail
              refine HPW.out.mono ?_
              rintro e w2 ⟨v2, rfl, ho2, hr2⟩
              rw [List.append_assoc, ← HSUC.out] at ho2
              have HO2 := Lib.hid ho2
              have HB3 := Lib.hid (HB2.out.trans (hr2.below HB2.out.size HVB.out))
              clear ho2 hr2 HPW
              go_wp2
              go_roundw
              case rel => exact ⟨k + 1, by omega, by go_num, HO2.out, HB3.out⟩
              case measure => simp [intOf]; omega
            · obtain rfl : k = L.length := by omega
              rw [List.take_length] at HO
              have hwB2 : w.heap.size ≤ wr.heap.size := HB2.out.size
              have hl0 : (magicB ++ L.flatMap packItm).length ≤ 4194312 := by
                rw [List.length_append]; show 8 + _ ≤ _; omega
              have HBODY := Lib.hid (show packAll L = (magicB ++ L.flatMap packItm ++ [0] ++ leB L.length 4) ++ leB (crcOf (magicB ++ L.flatMap packItm ++ [0] ++ leB L.length 4)) 4 from rfl)
              have HVB := Lib.hid (show ∀ j, _ → w.heap.size ≤ j from fun j hj => (HO.out.block hj).1)
              clear hk hlt
              generalize magicB ++ L.flatMap packItm = b0 at *
              go_wp2_with (at_builtin; refine wpList_append_own_at _ rfl _ _ 24 rfl w.heap.size 5 i0 (.int .u8 0) 1 1 Tryd.underlying24 hi hz0 hz1 hz2 rfl (by decide) _ b0.length _ rfl (HO.out.alloc _) ⟨wr.heap.size, 0, none⟩ 1 1 [_] rfl rfl (new_one _ _ _ _ rfl) (one_cell rfl) (by unfold maxLen; omega) (by omega) (le_alloc hwB2 _) ?_)
              intro v1 w1 h1 hg1 _ hs1
              have HO1 : Hid (Own w1 w.heap.size 5 v1 (b0 ++ [0]).length (bcells (b0 ++ [0]))) := Lib.hid (by rw [List.length_append, bcells_append, bcells_one]; exact h1)
              have HB3 := Lib.hid (HB2.out.trans ((Row.step hg1 (by rw [size_alloc]; exact hs1)).below HB2.out.size HVB.out))
              have hwB3 : w.heap.size ≤ w1.heap.size := HB3.out.size
              clear h1 hg1 hs1 HVB
              have hl1 : (b0 ++ [0]).length ≤ 4194313 := by rw [List.length_append]; simp only [List.length_cons, List.length_nil]; omega
              have hnum := number_walk w.heap.size v1 _ L.length 4 w1 (by omega) (by omega) HO1.out hwB3 (by omega)
              rw [show ((4 : Nat) : Int) = 4 from rfl] at hnum
              have HNUM := Lib.hid hnum
              have HVB := Lib.hid (show ∀ j, _ → w.heap.size ≤ j from fun j hj => (HO1.out.block hj).1)
              clear hnum
              go_wp2_with fail
              refine HNUM.out.mono ?_
              rintro e w2 ⟨v2, rfl, ho2, hr2⟩
              have HO2 := Lib.hid ho2
              have HB4 := Lib.hid (HB3.out.trans (hr2.below hwB3 HVB.out))
              have hwB4 : w.heap.size ≤ w2.heap.size := HB4.out.size
              clear ho2 hr2 HNUM HVB
              have hl2 : (b0 ++ [0] ++ leB L.length 4).length ≤ 4194317 := by rw [List.length_append, leB_length]; omega
              generalize b0 ++ [0] ++ leB L.length 4 = b1 at *
              have HVB := Lib.hid (show ∀ j, _ → w.heap.size ≤ j from fun j hj => (HO2.out.block hj).1)
              obtain ⟨a2, c2, e2⟩ := HO2.out.form
              subst e2
              have HSUM := Lib.hid (refSum_walk b1 a2 c2 w2 (BytesAt.of_own (n := b1.length) HO2.out).2 (by omega))
              have hnum := number_walk w.heap.size _ b1 (crcOf b1) 4 w2 (by have := crcOf_lt b1; omega) (by omega) HO2.out hwB4 (by omega)
              rw [show ((4 : Nat) : Int) = 4 from rfl] at hnum
              have HNUM := Lib.hid hnum
              clear hnum
              go_wp2_with fail
              refine HSUM.out.mono ?_
              rintro e w3 ⟨rfl, rfl⟩
              go_wp2_with fail
              refine HNUM.out.mono ?_
              rintro e w4 ⟨v4, rfl, ho4, hr4⟩
              rw [← HBODY.out] at ho4
              have HO4 := Lib.hid ho4
              have HB5 := Lib.hid (HB4.out.trans (hr4.below hwB4 HVB.out))
              clear ho4 hr4 HNUM HVB
              go_wp2
              go_ret2
              exact pack_good HG.out HO4.out HB5.out
end Go.Proofs.YtenpihkfghfpaaaDoor
