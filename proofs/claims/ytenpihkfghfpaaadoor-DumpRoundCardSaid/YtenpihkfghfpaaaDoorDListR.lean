/- The reference's List. -/
import Derived.Test.YtenpihkfghfpaaaDoorDCItem
namespace Go.Proofs.YtenpihkfghfpaaaDoor
open Go.RowKit Vl Go.Maps
set_option linter.unusedVariables false

theorem runsS_size (n : Nat) (all : Int) (rs : List (Int × Int)) (l : List UInt8) (ok : Bool) :
    (runsS n all rs l ok).2.2.1.length ≤ l.length ∧ (runsS n all rs l ok).2.1.length ≤ rs.length + l.length + 1 ∧ ∀ r ∈ (runsS n all rs l ok).2.1, r ∈ rs ∨ (0 ≤ r.1 ∧ r.1 < 4294967296 ∧ 0 ≤ r.2 ∧ r.2 < 4294967296) := by
  induction n generalizing all rs l ok with
  | zero => rw [runsS]; exact ⟨Nat.le_refl _, by simp only; omega, fun r hr => .inl hr⟩
  | succ n ih =>
    cases ok with
    | false => rw [runsS_false]; exact ⟨Nat.le_refl _, by simp only; omega, fun r hr => .inl hr⟩
    | true =>
      rw [runsS, if_pos rfl]
      rcases s1 : numS 4 l true with ⟨f, l6, ok6⟩
      simp only
      rcases s2 : numS 4 l6 ok6 with ⟨t, l7, ok7⟩
      have q1 := numS_at s1
      have q2 := numS_at s2
      simp only
      cases ok7 with
      | false =>
        rw [runsS_false]
        simp only [List.length_append, List.length_cons, List.length_nil]
        refine ⟨by omega, by omega, fun r hr => ?_⟩
        rcases List.mem_append.1 hr with hr | hr
        · exact .inl hr
        · simp at hr; subst hr; exact .inr (by simp only; omega)
      | true =>
        obtain ⟨e1, e2⟩ := q2.2.2.2 rfl
        have e3 := (q1.2.2.2 e2).1
        obtain ⟨i1, i2, i3⟩ := ih (if f < t then all + t - f else all) (rs ++ [((f : Int), (t : Int))]) l7 true
        rw [List.length_append] at i2
        simp only [List.length_cons, List.length_nil] at i2
        refine ⟨by omega, by omega, fun r hr => ?_⟩
        rcases i3 r hr with h3 | h3
        · rcases List.mem_append.1 h3 with h3 | h3
          · exact .inl h3
          · simp at h3; subst h3; exact .inr (by simp only; omega)
        · exact .inr h3
theorem dataS_size {x : Itm} {r : Int × List (Int × Int) × List UInt8 × Bool} (hx : x.data = []) : (dataS x r).2.1.length ≤ r.2.2.1.length ∧ (dataS x r).1.kind = x.kind ∧ (dataS x r).1.path = x.path ∧ (dataS x r).1.target = x.target ∧ (dataS x r).1.size = x.size ∧ (dataS x r).1.runs = r.2.1 ∧ (dataS x r).1.data.length ≤ r.2.2.1.length := by
  unfold dataS
  split
  · have h := takeS_len (512 * r.1).toNat r.2.2.1 r.2.2.2
    exact ⟨h.1, rfl, rfl, rfl, rfl, rfl, h.2⟩
  · exact ⟨Nat.le_refl _, rfl, rfl, rfl, rfl, rfl, by simp [hx]⟩
theorem itemS_size (k : Nat) (l : List UInt8) (ok : Bool) (hk : k ≤ 4) (hl : l.length ≤ 4194304) : (itemS k l ok).2.1.length ≤ l.length ∧ SizeItm (itemS k l ok).1 := by
  unfold itemS
  rcases s1 : numS 2 l ok with ⟨n1, l1, ok1⟩
  simp only
  rcases s2 : takeS n1 l1 ok1 with ⟨path, l2, ok2⟩
  have q1 := numS_at s1
  have q2 := takeS_at s2
  simp only
  have hI0 : I64 0 := by unfold I64; omega
  have hIk : I64 (k : Int) := by unfold I64; omega
  split
  · unfold fileS
    rcases s3 : numS 8 l2 ok2 with ⟨sz, l3, ok3⟩
    simp only
    rcases s4 : numS 4 l3 ok3 with ⟨n, l4, ok4⟩
    have q3 := numS_at s3
    have q4 := numS_at s4
    simp only
    have h5 := runsS_size n 0 [] l4 ok4
    have h6 := @dataS_size { kind := k, path := path, target := [], size := sz, runs := [], data := [] } (runsS n 0 [] l4 ok4) rfl
    obtain ⟨e0, e1, e2, e3, e4, e5, e6⟩ := h6
    simp only at e1 e2 e3 e4
    refine ⟨by omega, by rw [e1]; exact hIk, by rw [e4]; unfold I64; omega, by rw [e2]; unfold maxLen; omega, by rw [e3]; simp, ?_, by omega, fun r hr => ?_⟩
    · rw [e5]; have := h5.2.1; simp only [List.length_nil] at this; omega
    · rw [e5] at hr
      have := (h5.2.2 r hr).resolve_left (by simp)
      unfold I64; omega
  · split
    · unfold textS
      rcases s3 : numS 2 l2 ok2 with ⟨tn, l3, ok3⟩
      simp only
      rcases s4 : takeS tn l3 ok3 with ⟨t, l4, ok4⟩
      have q3 := numS_at s3
      have q4 := takeS_at s4
      simp only
      exact ⟨by omega, hIk, hI0, by simp only; unfold maxLen; omega, by simp only; unfold maxLen; omega, by simp, by simp, by simp⟩
    · exact ⟨by simp only; omega, hIk, hI0, by simp only; unfold maxLen; omega, by simp, by simp, by simp, by simp⟩

theorem told_false {a : List UInt8} {L : List Itm} (h : parseS a = (L, false)) : parseR a = none := by
  have := parse_told a
  cases hp : parseR a with
  | none => rfl
  | some K => rw [hp, h] at this; simp at this
theorem told_true {a : List UInt8} {L : List Itm} (h : parseS a = (L, true)) : parseR a = some L := by
  have := parse_told a
  cases hp : parseR a with
  | none => rw [hp, h] at this; simp at this
  | some K => rw [hp, h] at this; simp at this; rw [this]

theorem str_cmp (x y : List UInt8) : ((strOf x).toList == (strOf y).toList) = decide (x = y) := by
  rw [ByteArray.toList_eq, ByteArray.toList_eq, Bool.eq_iff_iff, beq_iff_eq, decide_eq_true_iff]
  exact Iff.rfl
theorem loopS_bad {F : Nat} (acc : List Itm) (l : List UInt8) : loopS (F + 1) acc l false = (acc, false) := by simp [loopS]

set_option maxRecDepth 100000 in
set_option maxHeartbeats 4000000 in
theorem reflist_walk (l : List UInt8) (a : Option Addr) (c : Nat) (w : World) (h : BytesAt w a l) (hl : l.length ≤ 140737488351232) : Calls Tryd.prog 26 #[.slice a l.length c] w (ListPost (listOf (parseR l) l) w) := by
  by_cases hlong : 4194304 < l.length
  · have HP := Lib.hid (show listOf (parseR l) l = ([], 7) by unfold listOf; rw [if_pos hlong])
    have b1 : decide ((4194304 : Int) < (l.length : Int)) = true := decide_eq_true (by omega)
    clear hlong
    go_enter Tryd.func26, Tryd.ntmps26
    go_wp2
    go_ret2
    exact list_bad HP.out (Below.refl _ _)
  · have b1 : decide ((4194304 : Int) < (l.length : Int)) = false := decide_eq_false (by omega)
    have hl2 : l.length ≤ 4194304 := by omega
    have HLG := Lib.hid hlong
    obtain ⟨p, hp⟩ : ∃ p, p = w.heap.size := ⟨_, rfl⟩
    have HCU : Hid (CurAt w (w.alloc (.cells #[.slice a l.length c, .int .i64 0, .bool true] 79)) p l true) := by
      subst hp
      exact Lib.hid ⟨a, c, l, 0, heap_alloc_new _ _, h, Nat.zero_le _, rfl, hl2, Nat.le_refl _, (Below.refl _ w).alloc (Nat.le_refl _) _⟩
    have H := Lib.hid h
    have HPE := Lib.hid hp
    clear h hlong
    go_enter Tryd.func26, Tryd.ntmps26
    go_upto_region 4 with fail
    rw [← hp]
    clear hp
    generalize w.alloc (.cells #[.slice a l.length c, .int .i64 0, .bool true] 79) = w1 at *
    rcases s1 : takeS 8 l true with ⟨m8, l1, ok1⟩
    have q1 := takeS_at s1
    have hl1 : l1.length ≤ 4194304 := by omega
    have HPS := Lib.hid (show parseS l = loopS (l1.length + 1) [] l1 ok1 by unfold parseS; rw [s1])
    have HN := Lib.hid (ctake_is (n := 8) 8 rfl (by omega) HCU.out s1)
    clear s1 q1
    go_wp2_with fail
    refine HN.out.mono ?_
    rintro e w2 ⟨v2, rfl, _, ht2, _⟩
    have HT2 := Lib.hid ht2
    clear ht2 HN HCU
    go_wp2_with fail
    go_loopg [5] (l1.length) (fun k v5 wr => ∃ acc ds l' o' F, k = l'.length ∧ l'.length < F ∧ l'.length ≤ 4194304 ∧ acc.length ≤ 4097 ∧ (∀ x ∈ acc, SizeItm x) ∧ loopS F acc l' o' = parseS l ∧ ItemsO wr p v5 acc ds ∧ CurAt w wr p l' o')
    case atStart => exact ⟨[], [], l1, ok1, _, rfl, Nat.lt_succ_self _, hl1, by simp, by simp, HPS.out.symm, ItemsO.nil _ _, HT2.out⟩
    case round =>
      obtain ⟨acc, ds, l', o', F, hk, hF, hl', hacc, hsz, hloop, hio, hcu⟩ := hrel
      obtain ⟨va, vc, rfl⟩ := row_form hio.row
      have HLP := Lib.hid hloop
      have HIO := Lib.hid hio
      have HSZ := Lib.hid hsz
      have HT := Lib.hid hcu
      obtain ⟨p0, p1, hpb⟩ := hcu.blk
      have c2 := cell_whole hpb 2
      simp only [List.getElem?_toArray, List.getElem?_cons_succ, List.getElem?_cons_zero] at c2
      obtain ⟨G, rfl⟩ : ∃ G, F = G + 1 := ⟨F - 1, by omega⟩
      clear hloop hio hsz hcu hpb
      cases o' with
      | false =>
        have HP := Lib.hid (show listOf (parseR l) l = ([], 150) by
          rw [told_false (a := l) (L := acc) (by rw [← HLP.out, loopS_bad])]; unfold listOf; rw [if_neg HLG.out])
        go_wp2
        go_ret2
        exact list_bad HP.out HT.out.low
      | true =>
        rcases s3 : numS 1 l' true with ⟨kd, l2, ok2⟩
        have q3 := numS_at s3
        have hl2' : l2.length ≤ 4194304 := by omega
        have hkd : kd < 256 := by have := q3.2.2.1; omega
        have HST := Lib.hid (show loopS (G + 1) acc l' true = (if kd < 1 ∨ 4 < kd ∨ 4096 < acc.length then (acc, ok2) else loopS G (acc ++ [(itemS kd l2 ok2).1]) (itemS kd l2 ok2).2.1 (itemS kd l2 ok2).2.2) by
          rw [loopS, if_pos rfl, s3])
        have HN := Lib.hid (cnum_is (n := 1) 1 rfl (by omega) (by omega) HT.out s3)
        have HOK2 := Lib.hid (show 1 ≤ kd → l2.length + 1 = l'.length from fun h1 => by
          unfold numS at s3
          split at s3
          · rename_i v m hr
            have := numR_len hr
            cases s3
            simp only at this; omega
          · cases s3; omega)
        clear s3 q3
        go_wp2_with fail
        refine HN.out.mono ?_
        rintro e w5 ⟨rfl, ht5, ho5⟩
        have HT5 := Lib.hid ht5
        have HIO5 := Lib.hid (show ItemsO w5 p (.slice va acc.length vc) acc ds from HIO.out.keep fun k cs t hk hB hT => ho5.block k (lt_whole hk) (fun e => by
          obtain ⟨x0, x1, hx⟩ := HT.out.blk
          rw [e, hx] at hk
          simp at hk
          rcases hT with rfl | rfl | rfl <;> simp at hk))
        obtain ⟨p0, p1, hpb⟩ := ht5.blk
        have c2 := cell_whole hpb 2
        simp only [List.getElem?_toArray, List.getElem?_cons_succ, List.getElem?_cons_zero] at c2
        clear ht5 ho5 HN HIO HT hpb
        go_upto_region 8 with fail
        go_cut [34] from 18 to 41 (fun v34 wx => v34 = .bool (decide (kd < 1 ∨ 4 < kd ∨ 4096 < acc.length)) ∧ wx = w5)
        case first =>
          by_cases h1 : kd < 1
          · obtain rfl : kd = 0 := by omega
            go_wp2
            go_meet
            exact ⟨by rw [decide_eq_true (Or.inl h1)], rfl⟩
          · have t1 : decide ((kd : Int) < 1) = false := decide_eq_false (by omega)
            by_cases h4 : 4 < kd
            · have t2 : decide ((4 : Int) < (kd : Int)) = true := decide_eq_true (by omega)
              have HD : Hid (decide (kd < 1 ∨ 4 < kd ∨ 4096 < acc.length) = true) := Lib.hid (decide_eq_true (.inr (.inl h4)))
              clear h1 h4
              go_wp2
              go_meet
              exact ⟨by rw [HD.out], rfl⟩
            · have t2 : decide ((4 : Int) < (kd : Int)) = false := decide_eq_false (by omega)
              have HD : Hid (decide (kd < 1 ∨ 4 < kd ∨ 4096 < acc.length) = decide ((4096 : Int) < (acc.length : Int))) := Lib.hid (by rw [decide_eq_decide]; omega)
              clear h1 h4
              go_wp2
              go_meet
              exact ⟨by rw [HD.out], rfl⟩
        case rest =>
          obtain ⟨rfl, rfl⟩ := hcut
          by_cases hbrk : kd < 1 ∨ 4 < kd ∨ 4096 < acc.length
          · rw [if_pos hbrk] at HST
            rw [decide_eq_true hbrk]
            clear hbrk
            have HPF := Lib.hid (show parseS l = (acc, ok2) by rw [← HLP.out, HST.out])
            cases ok2 with
            | false =>
              have HP := Lib.hid (show listOf (parseR l) l = ([], 150) by
                rw [told_false HPF.out]; unfold listOf; rw [if_neg HLG.out])
              go_wp2
              go_ret2
              exact list_bad HP.out HT5.out.low
            | true =>
              have HPR := Lib.hid (show parseR l = some acc from told_true HPF.out)
              have HPK := Lib.hid (refPack_walk acc va vc wc (HIO5.out.at).2 ⟨by omega, HSZ.out⟩)
              go_wp2_with fail
              refine HPK.out.mono ?_
              rintro e w6 ⟨pv, rfl, hown, hb6⟩
              obtain ⟨pa, pc, rfl⟩ := hown.form
              have HO := Lib.hid hown
              have HB6 := Lib.hid (HT5.out.low.trans (hb6.mono HT5.out.low.size))
              have HIO6 := Lib.hid (HIO5.out.below hb6)
              clear hown hb6 HPK
              have HBY := Lib.hid (BytesAt.of_own HO.out).2
              have HBL := Lib.hid (H.out.below HB6.out)
              cases hs : packSpec acc with
              | mk pb pe =>
                rw [hs] at HO HBY
                simp only at HO HBY ⊢
                by_cases he : pe = 0
                · subst he
                  have hc1 := bytes_conv HBY.out pc
                  have hc2 := bytes_conv HBL.out c
                  have hq := str_cmp pb l
                  by_cases hx : pb = l
                  · have HP := Lib.hid (show listOf (parseR l) l = (acc, 0) by rw [HPR.out]; unfold listOf; rw [if_neg HLG.out]; simp only; rw [if_pos (by rw [hs, hx])])
                    rw [decide_eq_true hx] at hq
                    clear hs hx
                    go_wp2
                    go_ret2
                    exact ⟨_, by rw [HP.out]; rfl, HB6.out, ds, by rw [HP.out, ← HPE.out]; exact HIO6.out⟩
                  · have HP := Lib.hid (show listOf (parseR l) l = ([], 150) by rw [HPR.out]; unfold listOf; rw [if_neg HLG.out]; simp only; rw [if_neg (fun e => hx (by rw [hs] at e; cases e; rfl))])
                    rw [decide_eq_false hx] at hq
                    clear hs hx
                    go_wp2
                    go_ret2
                    exact list_bad HP.out HB6.out
                · have q1 : ((pe : Int) != 0) = true := by rw [bne_iff_ne]; omega
                  have HP := Lib.hid (show listOf (parseR l) l = ([], 150) by rw [HPR.out]; unfold listOf; rw [if_neg HLG.out]; simp only; rw [if_neg (fun e => he (by rw [hs] at e; cases e; rfl))])
                  clear he hs
                  go_wp2
                  go_ret2
                  exact list_bad HP.out HB6.out
          · rw [if_neg hbrk] at HST
            rw [decide_eq_false hbrk]
            have hk4 : kd ≤ 4 := by omega
            have hk1 : 1 ≤ kd := by omega
            have hacc2 : acc.length ≤ 4096 := by omega
            have hcon := HOK2.out hk1
            clear hbrk HOK2
            have HN := Lib.hid (citem_walk w kd p l2 ok2 wc HT5.out hk4)
            have hs3 := itemS_size kd l2 ok2 hk4 hl2'
            rcases hS : itemS kd l2 ok2 with ⟨x, l3, o3⟩
            rw [hS] at HN HST hs3
            simp only at HN HST hs3
            have hl3 : l3.length ≤ l2.length := hs3.1
            have HSX := Lib.hid hs3.2
            clear hS hs3
            go_wp2_with fail
            refine HN.out.mono ?_
            rintro e w6 ⟨⟨d4, d5⟩, rfl, hio6, ht6, ho6⟩
            obtain ⟨ra, rc, e4⟩ := row_form hio6.runs
            obtain ⟨da, dc, e5⟩ := row_form hio6.data
            simp only at e4 e5
            subst e4
            subst e5
            have hpw : p < wc.heap.size := HT5.out.lt
            have HIX := Lib.hid (hio6.mono (B' := p) (by omega))
            have HT6 := Lib.hid ht6
            have HIO6 := Lib.hid (show ItemsO w6 p (.slice va acc.length vc) acc ds from HIO5.out.keep fun k cs t hk hB hT => ho6.block k (lt_whole hk) (fun e => by
              obtain ⟨x0, x1, hx⟩ := HT5.out.blk
              rw [e, hx] at hk
              simp at hk
              rcases hT with rfl | rfl | rfl <;> simp at hk))
            have hp6 : p ≤ w6.heap.size := by have := ho6.size; omega
            have hw6 : w.heap.size ≤ w6.heap.size := by have := HPE.out; omega
            have hwp : w.heap.size ≤ p := by have := HPE.out; omega
            simp only [icell]
            obtain ⟨i9, hi9, hz0, hz1, hz2⟩ := info_parts info47
            clear hio6 ht6 ho6 HN
            go_wp2_with (at_builtin; refine wpList_append_own _ rfl _ _ 22 rfl p 47 i9 _ 6 96 Tryd.underlying22 hi9 hz0 hz1 hz2 rfl (by decide) _ acc.length _ rfl (World.ownsRow.alloc (World.ownsRow.alloc HIO6.out.row _) _) ⟨w6.heap.size + 1, 0, none⟩ 1 1 [.int .i64 x.kind, .string (strOf x.path), .string (strOf x.target), .int .i64 x.size, .slice ra x.runs.length rc, .slice da x.data.length dc] rfl rfl (new_cells _ _ _ _ (by rw [size_alloc])) (six_cell rfl rfl rfl rfl rfl rfl) (by unfold maxLen; omega) (by omega) (le_alloc (le_alloc hp6 _) _) ?_)
            intro v9 w9 h9 hg9 _
            obtain ⟨a9, d9, rfl⟩ := row_form h9
            have hrow8 := World.ownsRow.alloc (World.ownsRow.alloc HIO6.out.row (.cells #[.int .i64 x.kind, .string (strOf x.path), .string (strOf x.target), .int .i64 x.size, .slice ra x.runs.length rc, .slice da x.data.length dc] 47)) (.cells #[.int .i64 x.kind, .string (strOf x.path), .string (strOf x.target), .int .i64 x.size, .slice ra x.runs.length rc, .slice da x.data.length dc] 47)
            have HB8 : Below w6.heap.size w6 ((w6.alloc (.cells #[.int .i64 x.kind, .string (strOf x.path), .string (strOf x.target), .int .i64 x.size, .slice ra x.runs.length rc, .slice da x.data.length dc] 47)).alloc (.cells #[.int .i64 x.kind, .string (strOf x.path), .string (strOf x.target), .int .i64 x.size, .slice ra x.runs.length rc, .slice da x.data.length dc] 47)) := ((Below.refl _ _).alloc (Nat.le_refl _) _).alloc (le_alloc (Nat.le_refl _) _) _
            have HT9 := Lib.hid (((HT6.out.alloc hw6 (.cells #[.int .i64 x.kind, .string (strOf x.path), .string (strOf x.target), .int .i64 x.size, .slice ra x.runs.length rc, .slice da x.data.length dc] 47)).alloc (le_alloc hw6 _) (.cells #[.int .i64 x.kind, .string (strOf x.path), .string (strOf x.target), .int .i64 x.size, .slice ra x.runs.length rc, .slice da x.data.length dc] 47)).grown hg9 hrow8 (by decide) hwp (le_alloc (le_alloc hw6 _) _))
            have HI9 : Hid (ItemsO w9 p (.slice a9 (acc.length + 1) d9) (acc ++ [x]) (ds ++ [(.slice ra x.runs.length rc, .slice da x.data.length dc)])) :=
              Lib.hid (ItemsO.push (HIO6.out.below HB8) (HIX.out.keep fun k cs t hk _ _ => HB8.block k (lt_whole hk)) hg9 h9)
            clear h9 hg9 hrow8 HB8
            go_wp2
            go_roundg l3.length
            case rel => exact ⟨acc ++ [x], ds ++ [(.slice ra x.runs.length rc, .slice da x.data.length dc)], l3, o3, G, rfl, by omega, by omega, by rw [List.length_append]; simp only [List.length_cons, List.length_nil]; omega, (fun y hy => by
              rcases List.mem_append.1 hy with hy | hy
              · exact HSZ.out y hy
              · simp at hy; subst hy; exact HSX.out), by rw [← HLP.out, HST.out], HI9.out, HT9.out⟩
            case measure => omega
end Go.Proofs.YtenpihkfghfpaaaDoor
