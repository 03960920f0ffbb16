/- dump's right. -/
import Derived.Test.YtenpihkfghfpaaaDoorDKinds
import Derived.Laws.Cover3
import Derived.Deep.Onto
import Derived.Test.YtenpihkfghfpaaaDoorDFilled
import Derived.Deep.CutBlock
namespace Go.Proofs.YtenpihkfghfpaaaDoor
open Go.RowKit Vl Go.Maps
set_option linter.unusedVariables false

theorem keyed9 : Keyed Tryd.prog 9 := string_keyed Tryd.underlying9
theorem zero3 (w : World) : (zeroValue 3).run Tryd.prog w = .ok (.int .i64 0) w := by kernel_rfl

/-- The parts of the item ahead, as the walk keeps them. -/
def AheadV (w : World) (B : Nat) (L : List Itm) (k : Nat) (v : Value) : Prop :=
  (k = 0 ∧ v = .slice none 0 0) ∨ ∃ (j : Nat) (ps : List (List UInt8)) (hj : j < L.length), k = j + 1 ∧ partsB L[j].path = some ps ∧ Own w B 9 v ps.length (scells ps)

set_option maxRecDepth 100000 in
set_option maxHeartbeats 4000000 in
theorem right_walk {H : Type} (L : List Itm) (a : Option Addr) (c : Nat) (w : World) (h : ItemsAt w a L) (hs : SizeAll L) (hM : MaxAt w) :
    Calls Tryd.prog 17 #[.slice a L.length c] w fun e w' => e = .returned (.bool (rightAll L)) ∧ Below w.heap.size w w' := by
  have HI := Lib.hid h
  have HS := Lib.hid hs
  have HM := Lib.hid hM
  have hLn := hs.1
  clear h hs hM
  have hmm := @run_makeMap Tryd.prog
  obtain ⟨wm, hrun0, hown0, hgr0⟩ := (World.ownsMap_made w Tryd.prog 9 (plainElem (H := H) Tryd.prog 3)).update (t := 66) (e := 3) keyed9 Tryd.underlying66 (by decide) (key := .string ⟨#[]⟩) (val := .int .i64 2) (kl := .string []) (WideMaps.keyOf_string_mk Tryd.underlying9 (by decide)) (plainElem_int Tryd.underlying3 (by decide))
  have HOWN0 := Lib.hid hown0
  have HBm := Lib.hid (((Below.refl w.heap.size w).alloc (Nat.le_refl _) _).grown hgr0 (le_alloc (Nat.le_refl _) _) (fun k hk => by cases hk; exact Nat.le_refl _))
  clear hown0 hgr0
  go_enter Tryd.func17, Tryd.ntmps17
  go_wp2
  go_loopw [4, 14] (fun v4 v14 wr => ∃ k : Nat, k ≤ L.length ∧ v14 = .int .i64 k ∧ PK L k ∧ AheadV wr w.heap.size L k v4 ∧ (∃ D : DataW H, wr.ownsMap Tryd.prog 9 (plainElem Tryd.prog 3) w.heap.size (k + 1) D ∧ KM L k D) ∧ Below w.heap.size w wr) (fun _ v14 _ => L.length - (intOf v14).toNat)
  case atStart => exact ⟨0, by omega, rfl, PK.start L, .inl ⟨rfl, rfl⟩, ⟨_, HOWN0.out, KM.start L⟩, HBm.out⟩
  case round =>
    obtain ⟨k, hk, rfl, hpk, hah, ⟨D, hown, hkm⟩, hbr⟩ := hrel
    have HPK := Lib.hid hpk
    have HAH := Lib.hid hah
    have HOWN := Lib.hid hown
    have HKM := Lib.hid hkm
    have HBR := Lib.hid hbr
    clear hpk hah hown hkm hbr
    by_cases hlt : k < L.length
    · obtain ⟨g, off, ra, rc, da, dc, hit⟩ := HI.out.below HBR.out k hlt
      have e := hit.addr
      subst e
      have c0 := hit.c0
      have c1 := hit.c1
      have c2 := hit.c2
      have c3 := hit.c3
      have c4 := hit.c4
      have c5 := hit.c5
      have HSZ := Lib.hid (HS.out.2 L[k] (List.getElem_mem hlt))
      have HRU := Lib.hid hit.runs
      have HDA := Lib.hid hit.data
      have HPREV := Lib.hid (fun h0 => take_last hlt h0)
      have HNX := Lib.hid (fun hr => HPK.out.next hlt hr)
      have HST := Lib.hid (fun hr => HPK.out.stop hlt hr)
      have HRN := Lib.hid (fun hr => HKM.out.next hlt hr)
      clear hit
      generalize hLx : L[k] = x at *
      have HLX := Lib.hid hLx
      clear hLx
      go_wp2_with fail
      have HBW : Hid (Below wr.heap.size wr (wr.alloc (.cells #[.int .i64 x.kind, .string (strOf x.path), .string (strOf x.target), .int .i64 x.size, .slice ra x.runs.length rc, .slice da x.data.length dc] 47))) := Lib.hid ((Below.refl _ _).alloc (Nat.le_refl _) _)
      have HBOX := Lib.hid (fun (w2 : World) => box_cells (w := wr) (wr := w2) (c0 := .int .i64 x.kind) (c1 := .string (strOf x.path)) (c2 := .string (strOf x.target)) (c3 := .int .i64 x.size) (c4 := .slice ra x.runs.length rc) (c5 := .slice da x.data.length dc))
      generalize wr.alloc (.cells #[.int .i64 x.kind, .string (strOf x.path), .string (strOf x.target), .int .i64 x.size, .slice ra x.runs.length rc, .slice da x.data.length dc] 47) = w1 at *
      clear c0 c1 c2 c3 c4 c5
      have hpp := cut_walk (strOf x.path) w1 ((HM.out.below HBR.out).below HBW.out) (by have := HSZ.out.path; rw [strOf_size]; exact this)
      unfold PartsPost at hpp
      rw [show bytes (strOf x.path) = x.path from rfl] at hpp
      have HPP := Lib.hid hpp
      clear hpp
      have HB1 := Lib.hid (HBR.out.trans (HBW.out.mono HBR.out.size))
      cases hps : partsB x.path with
      | none =>
        have HF := Lib.hid (HST.out (rightAt_none hps))
        rw [hps] at HPP
        refine HPP.out.mono ?_
        rintro e w2 ⟨rfl, hb2⟩
        have HB2 := Lib.hid (HB1.out.trans (hb2.mono HB1.out.size))
        clear hb2
        go_wp2
        go_ret
        exact ⟨by rw [HF.out]; rfl, HB2.out⟩
      | some ps =>
        rw [hps] at HPP
        have HRA := Lib.hid (rightAt_some (prev := L.take k) hps)
        have HPS := Lib.hid hps
        obtain ⟨hpb, hxb⟩ := parts_len hps
        clear hps
        refine HPP.out.mono ?_
        rintro e w2 ⟨⟨v, rfl, ho⟩, hb2⟩
        obtain ⟨av, cv, rfl⟩ := ho.form
        have HO := Lib.hid ho
        have HB2 := Lib.hid hb2
        clear hb2 ho
        go_upto_region 7 with fail
        go_cut [35] from 24 to 35 (fun v35 wx => v35 = .bool (!aboveB (L.take k) x) ∧ Below w2.heap.size w2 wx)
        case first =>
          have hn1 : ∀ W, (binOp .neq 67 (.slice none 0 0) (.slice none 0 0)).run Tryd.prog W = .ok (.bool false) W := fun W => run_neq_slice_nil W 67 9 none 0 0 Tryd.underlying67
          have hn2 : ∀ W (a : Addr) (l c : Nat), (binOp .neq 67 (.slice (some a) l c) (.slice none 0 0)).run Tryd.prog W = .ok (.bool true) W := fun W a l c => run_neq_slice_nil W 67 9 (some a) l c Tryd.underlying67
          have HW2 := Lib.hid (HBW.out.trans (HB2.out.mono HBW.out.size))
          rcases HAH.out with ⟨rfl, rfl⟩ | ⟨j, qs, hj, rfl, hqs, hoq⟩
          · have HAB := Lib.hid (show aboveB (L.take 0) x = true from rfl)
            go_wp2
            go_meet
            exact ⟨by rw [HAB.out]; rfl, Below.refl _ _⟩
          · obtain ⟨hq1, hqj, hqn, hqa⟩ := partsB_some hqs
            obtain ⟨_, hpj, _, hpa⟩ := partsB_some HPS.out
            have HAB := Lib.hid (show aboveB (L.take (j + 1)) x = aheadB qs ps by
              unfold aboveB
              rw [HPREV.out (by omega)]
              show ltB (keyB (L[j]'hj).path) (keyB x.path) = _
              rw [hqj, hpj]
              exact key_order hqa hpa)
            obtain ⟨hql, _⟩ := parts_len hqs
            have hq0 : 0 < qs.length := List.length_pos_iff.2 hqn
            obtain ⟨aq, cq, rfl⟩ := hoq.form
            obtain ⟨gq, rfl, _⟩ := own_str hoq hq0
            have HQ2 := Lib.hid (own_kept hoq HW2.out)
            have HA2 := Lib.hid (ahead_walk _ _ _ _ qs ps w2 HQ2.out HO.out (by omega) (by omega))
            clear hqs hq1 hqj hqn hqa hpj hpa hoq
            generalize aheadB qs ps = q at *
            go_wp2_with fail
            refine HA2.out.mono ?_
            rintro e w3 ⟨rfl, hb3⟩
            have HB3 := Lib.hid hb3
            clear hb3
            go_wp2
            go_meet
            exact ⟨by rw [HAB.out], HB3.out⟩
        case rest =>
          obtain ⟨rfl, hbc⟩ := hcut
          have HBC := Lib.hid (HB1.out.trans ((HB2.out.trans (hbc.mono HB2.out.size)).mono HB1.out.size))
          have HBC1 := Lib.hid (HB2.out.trans (hbc.mono HB2.out.size))
          have HBCO := Lib.hid hbc
          clear hbc
          cases hab : aboveB (L.take k) x
          · have HF := Lib.hid (HST.out (show rightAt (L.take k) x = false by rw [HRA.out, hab]; rfl))
            clear hab
            go_wp2
            go_ret
            exact ⟨by rw [HF.out]; rfl, HBC.out⟩
          · rw [hab, Bool.true_and] at HRA
            clear hab
            obtain ⟨f0, f1, f2, f3, f4, f5⟩ := HBOX.out wc HBC1.out
            have HOW := Lib.hid (kept_below HOWN.out (HBW.out.trans (HBC1.out.mono HBW.out.size)))
            go_upto_region 10 with fail
            go_cut [45] from 37 to 45 (fun v45 wx => v45 = .bool (!decide (kindM L k (joinP ps.dropLast) = 2)) ∧ wx = wc.drew)
            case first =>
              have hsx : (strOf x.path).size = x.path.length := strOf_size _
              have hxb2 : (strOf x.path).size ≤ 1023 := by omega
              obtain ⟨m, hm⟩ : ∃ m, m = (joinP ps.dropLast).length := ⟨_, rfl⟩
              obtain ⟨_, hpj, hpn, _⟩ := partsB_some HPS.out
              have hjl := join_last hpn
              have hml : m ≤ (strOf x.path).size := by
                rw [hsx, hpj, hjl, List.length_append, ← hm]; omega
              have HUP := Lib.hid (show bytes ((strOf x.path).extract 0 m) = joinP ps.dropLast by
                rw [bytes_extract _ 0 m hml, show bytes (strOf x.path) = x.path from rfl, List.drop_zero, Nat.sub_zero, hpj]
                conv => lhs; rw [hjl]
                rw [hm]; simp)
              have HLI : Hid (∀ w, Calls Tryd.prog 33 #[.string (strOf x.path), .int .u8 47] w fun e w' => e = .returned (.int .i64 (m : Int)) ∧ w' = w) := Lib.hid (fun w => by
                have := Tryd.strings_LastIndexByte (strOf x.path) 47 (by omega) w
                rw [lastSlash (show partsB (bytes (strOf x.path)) = some ps from HPS.out), ← hm] at this
                exact this)
              obtain ⟨cc, hrl, hat, _⟩ := (HOW.out.drew).lookup_int keyed9 Tryd.underlying66 Tryd.underlying3 (zero3 _) (key := .string ((strOf x.path).extract 0 m)) (kl := .string (joinP ps.dropLast)) (by
                have := WideMaps.keyOf_string_mk Tryd.underlying9 (s := (strOf x.path).extract 0 m) (by rw [ByteArray.size_extract]; unfold maxLen; omega)
                rw [this]
                exact congrArg (fun l => some (Lit.string l)) HUP.out)
              rw [HKM.out.at_] at hat
              have HAT := Lib.hid (show kindM L k (joinP ps.dropLast) = cc by injection hat with h; injection h)
              clear hat hm hpj hpn hjl HUP hsx
              generalize strOf x.path = sx at *
              have hbk : (cc != 2) = !decide (cc = 2) := by rw [Bool.eq_iff_iff]; simp
              refine wp_canon_call 5 [2, 4] [[3, 4, 5, 0, 1, 2, 6, 7, 8], [1, 2, 3, 4, 5, 0, 6, 7, 8]] (by kernel_rfl) (by kernel_rfl) (by kernel_rfl) ⟨?_, ?_, trivial⟩
              all_goals simp only [fm_cons, List.filterMap_nil, List.getElem?_toArray, List.getElem?_cons_zero, List.getElem?_cons_succ, Option.elim_some]
              all_goals
                go_wp2_with fail
                refine (HLI.out _).mono ?_
                rintro e w3 ⟨rfl, rfl⟩
                go_wp2_with fail
                refine ⟨rfl, ?_⟩
                go_wp2_with fail
                go_meet
                exact ⟨by rw [HAT.out, ← hbk], rfl⟩
            case rest =>
              obtain ⟨rfl, rfl⟩ := hcut
              have HUPK := Lib.hid (kindM_up (L := L) (k := k) (ps := ps) (partsB_some HPS.out).2.2.1)
              cases hup : decide (kindM L k (joinP ps.dropLast) = 2)
              · have HF := Lib.hid (HST.out (show rightAt (L.take k) x = false by rw [HRA.out, ← HUPK.out, hup]; rfl))
                clear hup
                go_wp2
                go_ret
                exact ⟨by rw [HF.out]; rfl, HBC.out.drew⟩
              · rw [← HUPK.out, hup, Bool.true_and] at HRA
                clear hup HUPK f0 f1 f2 f3 f4 f5
                have HBD := Lib.hid HBC.out.drew
                have HBD1 := Lib.hid HBC1.out.drew
                have HBDO := Lib.hid HBCO.out.drew
                have HOWD := Lib.hid HOW.out.drew
                clear HBC HBC1 HOW HBCO
                generalize wc.drew = wd at *
                obtain ⟨f0, f1, f2, f3, f4, f5⟩ := HBOX.out wd HBD1.out
                go_upto_region 12 with fail
                go_cut [9] from 46 to 60 (fun v9 wx => v9 = .bool (bareB x) ∧ wx = wd)
                case first =>
                  have HBA := Lib.hid (show bareB x = (decide (x.size = 0) && decide (x.runs.length = 0) && decide (x.data.length = 0)) by
                    unfold bareB
                    rw [Bool.eq_iff_iff]
                    simp [List.isEmpty_iff, List.length_eq_zero_iff])
                  by_cases s1 : x.size = 0
                  · have t1 : (x.size == 0) = true := by rw [beq_iff_eq]; exact s1
                    rw [decide_eq_true s1] at HBA
                    clear s1
                    by_cases s2 : x.runs.length = 0
                    · rw [decide_eq_true s2] at HBA
                      rw [s2] at f4
                      by_cases s3 : x.data.length = 0
                      · rw [decide_eq_true s3] at HBA
                        rw [s3] at f5
                        go_wp2
                        go_meet
                        exact ⟨by rw [HBA.out]; rfl, rfl⟩
                      · rw [decide_eq_false s3] at HBA
                        have t3 : ((x.data.length : Int) == 0) = false := by rw [beq_eq_false_iff_ne]; omega
                        go_wp2
                        go_meet
                        exact ⟨by rw [HBA.out]; rfl, rfl⟩
                    · rw [decide_eq_false s2] at HBA
                      have t2 : ((x.runs.length : Int) == 0) = false := by rw [beq_eq_false_iff_ne]; omega
                      go_wp2
                      go_meet
                      exact ⟨by rw [HBA.out]; rfl, rfl⟩
                  · have t1 : (x.size == 0) = false := by rw [beq_eq_false_iff_ne]; exact s1
                    rw [decide_eq_false s1] at HBA
                    clear s1
                    go_wp2
                    go_meet
                    exact ⟨by rw [HBA.out]; rfl, rfl⟩
                case rest =>
                  obtain ⟨rfl, rfl⟩ := hcut
                  go_upto_block 2 with fail
                  go_cut [8] from 63 to 109 (fun v8 wx => v8 = .bool (kindB (L.take k) x) ∧ Below wc.heap.size wc wx)
                  case first =>
                    have HIV : Hid (ItemV wc x (.agg #[.int .i64 x.kind, .string (strOf x.path), .string (strOf x.target), .int .i64 x.size, .slice ra x.runs.length rc, .slice da x.data.length dc]) ra rc da dc) := Lib.hid ⟨rfl, HRU.out.below (HBW.out.trans (HBD1.out.mono HBW.out.size)), HDA.out.below (HBW.out.trans (HBD1.out.mono HBW.out.size))⟩
                    have htz : (strOf x.target).size ≤ maxLen := by have := HSZ.out.target; rw [strOf_size]; exact this
                    unfold maxLen at htz
                    have HTE := Lib.hid (show (strOf x.target).toList.isEmpty = x.target.isEmpty by rw [ByteArray.toList_eq]; rfl)
                    by_cases k1 : x.kind = 1
                    · have d1 : (x.kind == 1) = true := by rw [k1]; rfl
                      have HKB := Lib.hid (show kindB (L.take k) x = (x.target.isEmpty && fileB x) by unfold kindB; rw [if_pos k1])
                      have HFW := Lib.hid (filled_walk x _ ra da rc dc wc HIV.out HSZ.out)
                      have hte := HTE.out
                      clear k1
                      cases hq : x.target.isEmpty
                      · rw [hq] at hte HKB
                        clear hq
                        go_wp2
                        go_meet
                        exact ⟨by rw [HKB.out]; rfl, Below.refl _ _⟩
                      · rw [hq] at hte HKB
                        clear hq
                        go_wp2_with fail
                        refine HFW.out.mono ?_
                        rintro e w6 ⟨rfl, hb6⟩
                        have HB6 := Lib.hid hb6
                        clear hb6
                        generalize fileB x = q at *
                        go_wp2
                        go_meet
                        exact ⟨by rw [HKB.out]; rfl, HB6.out⟩
                    · have d1 : (x.kind == 1) = false := by rw [beq_eq_false_iff_ne]; exact k1
                      have HKB := Lib.hid (show kindB (L.take k) x = (bareB x && (if x.kind = 2 then x.target.isEmpty else if x.kind = 3 then !x.target.isEmpty && decide (x.target.length ≤ 255) && !x.target.contains 0 else if x.kind = 4 then decide (kindAt (L.take k) x.target = 1) else false)) by unfold kindB; rw [if_neg k1])
                      clear k1
                      generalize bareB x = qb at *
                      by_cases k2 : x.kind = 2
                      · have d2 : (x.kind == 2) = true := by rw [beq_iff_eq]; exact k2
                        rw [if_pos k2] at HKB
                        have hte := HTE.out
                        clear k2
                        generalize x.target.isEmpty = q at *
                        cases qb
                        all_goals
                          go_wp2
                          go_meet
                          exact ⟨by rw [HKB.out]; rfl, Below.refl _ _⟩
                      · have d2 : (x.kind == 2) = false := by rw [beq_eq_false_iff_ne]; exact k2
                        rw [if_neg k2] at HKB
                        clear k2
                        by_cases k3 : x.kind = 3
                        · have d3 : (x.kind == 3) = true := by rw [beq_iff_eq]; exact k3
                          rw [if_pos k3] at HKB
                          clear k3
                          cases qb
                          · go_wp2
                            go_meet
                            exact ⟨by rw [HKB.out]; rfl, Below.refl _ _⟩
                          · rw [Bool.true_and] at HKB
                            have hte := HTE.out
                            cases hq : x.target.isEmpty
                            · rw [hq] at hte HKB
                              clear hq
                              have HIX : Hid (∀ w, Calls Tryd.prog 35 #[.string (strOf x.target), .int .u8 0] w fun e w' => e = .returned (.int .i64 (Lib.indexByte x.target 0)) ∧ w' = w) := Lib.hid (fun w => Tryd.strings_IndexByte (strOf x.target) 0 w)
                              have HIZ := Lib.hid (index_zero x.target 0)
                              rw [show x.target.length = (strOf x.target).size from (strOf_size _).symm, ← HIZ.out] at HKB
                              generalize Lib.indexByte x.target 0 = q at *
                              generalize strOf x.target = st at *
                              by_cases z2 : st.size ≤ 255
                              · rw [decide_eq_true z2] at HKB
                                have t2 : decide ((st.size : Int) ≤ 255) = true := decide_eq_true (by omega)
                                go_wp2_with fail
                                refine (HIX.out _).mono ?_
                                rintro e w6 ⟨rfl, rfl⟩
                                go_wp2
                                go_meet
                                exact ⟨by rw [HKB.out]; rfl, Below.refl _ _⟩
                              · rw [decide_eq_false z2] at HKB
                                have t2 : decide ((st.size : Int) ≤ 255) = false := decide_eq_false (by omega)
                                go_wp2
                                go_meet
                                exact ⟨by rw [HKB.out]; rfl, Below.refl _ _⟩
                            · rw [hq] at hte HKB
                              clear hq
                              go_wp2
                              go_meet
                              exact ⟨by rw [HKB.out]; rfl, Below.refl _ _⟩
                        · have d3 : (x.kind == 3) = false := by rw [beq_eq_false_iff_ne]; exact k3
                          rw [if_neg k3] at HKB
                          clear k3
                          by_cases k4 : x.kind = 4
                          · have d4 : (x.kind == 4) = true := by rw [beq_iff_eq]; exact k4
                            rw [if_pos k4] at HKB
                            clear k4
                            obtain ⟨cc, hrl, hat, _⟩ := HOWD.out.lookup_int keyed9 Tryd.underlying66 Tryd.underlying3 (zero3 _) (key := .string (strOf x.target)) (kl := .string x.target) (WideMaps.keyOf_string_mk Tryd.underlying9 (s := strOf x.target) (by unfold maxLen; omega))
                            rw [HKM.out.at_] at hat
                            have HAT := Lib.hid (show kindM L k x.target = cc by injection hat with h; injection h)
                            clear hat
                            rw [← kindM_link HPK.out (by omega), HAT.out] at HKB
                            have hbk : (cc == 1) = decide (cc = 1) := by rw [Bool.eq_iff_iff]; simp
                            cases qb
                            all_goals
                              go_wp2
                              go_meet
                              exact ⟨by rw [HKB.out]; simp, Below.refl _ _⟩
                          · have d4 : (x.kind == 4) = false := by rw [beq_eq_false_iff_ne]; exact k4
                            rw [if_neg k4, Bool.and_false] at HKB
                            clear k4
                            go_wp2
                            go_meet
                            exact ⟨by rw [HKB.out], Below.refl _ _⟩
                  case rest =>
                    obtain ⟨rfl, hbe⟩ := hcut
                    have HBE := Lib.hid (HBD.out.trans (hbe.mono HBD.out.size))
                    have HBE1 := Lib.hid (HBD1.out.trans (hbe.mono HBD1.out.size))
                    have HBEO := Lib.hid (HBDO.out.trans (hbe.mono HBDO.out.size))
                    have HOWE := Lib.hid (kept_below HOWD.out hbe)
                    clear hbe f0 f1 f2 f3 f4 f5 HOWD HBD HBD1 HBDO
                    obtain ⟨f0, f1, f2, f3, f4, f5⟩ := HBOX.out _ HBE1.out
                    cases hkb : kindB (L.take k) x
                    · have HF := Lib.hid (HST.out (show rightAt (L.take k) x = false by rw [HRA.out, hkb]))
                      clear hkb
                      go_wp2
                      go_ret
                      exact ⟨by rw [HF.out]; rfl, HBE.out⟩
                    · have HR := Lib.hid (show rightAt (L.take k) x = true by rw [HRA.out, hkb])
                      clear hkb
                      have hkw := HSZ.out.kind
                      unfold I64 at hkw
                      obtain ⟨wu, hru, hownu, hgu⟩ := HOWE.out.update (t := 66) (e := 3) keyed9 Tryd.underlying66 (by unfold maxLen; omega) (key := .string (strOf x.path)) (val := .int .i64 x.kind) (kl := .string x.path) (WideMaps.keyOf_string_mk Tryd.underlying9 (s := strOf x.path) (by have := HSZ.out.path; rw [strOf_size]; exact this)) (plainElem_int Tryd.underlying3 (by show (decide _ && decide _) = true; rw [Bool.and_eq_true, decide_eq_true_iff, decide_eq_true_iff]; exact hkw))
                      have HOWU := Lib.hid hownu
                      have hpl := partsB_some HPS.out
                      have hPKx : PK L (k + 1) := (HNX.out HR.out).1
                      have HAHN : Hid (AheadV wu w.heap.size L (k + 1) (.slice av ps.length cv)) := Lib.hid (.inr ⟨k, ps, hlt, rfl, by rw [HLX.out]; exact HPS.out, Own.keep (World.ownsRow.mono (own_kept HO.out HBEO.out) (HB1.out.size)) fun j hj => hgu.block j ((own_kept HO.out HBEO.out).block hj).2.1 (fun e => by
                        have h1 := (HO.out.block hj).1
                        have h2 := HB1.out.size
                        have h3 := HBW.out.size
                        have h4 := HOWN.out.lt
                        cases e
                        omega)⟩)
                      have HPKN := Lib.hid hPKx
                      have HKMN := Lib.hid (HRN.out hPKx.rise (path_ne HPS.out))
                      have HBU := Lib.hid (HBE.out.grown hgu (Nat.le_trans (Nat.le_refl _) HBE.out.size) (fun j hj => by cases hj; exact Nat.le_refl _))
                      clear hownu hgu hpl hPKx hkw
                      go_wp2
                      go_roundw
                      case rel => exact ⟨k + 1, by omega, by go_num, HPKN.out, HAHN.out, ⟨_, HOWU.out, HKMN.out⟩, HBU.out⟩
                      case measure => simp [intOf]; omega
    · obtain rfl : k = L.length := by omega
      have HALL := Lib.hid (HPK.out.all rfl)
      go_wp2
      go_ret
      exact ⟨by rw [HALL.out]; rfl, HBR.out⟩
end Go.Proofs.YtenpihkfghfpaaaDoor
