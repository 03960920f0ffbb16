/- dump's packer.add. -/
import Derived.Test.YtenpihkfghfpaaaDoorDPacker
namespace Go.Proofs.YtenpihkfghfpaaaDoor
open Go.RowKit Vl
set_option linter.unusedVariables false

theorem Pk.setCell {a w : World} {B p : Nat} (h : Pk a w B p) (hp : B ≤ p) (i : Nat) (u : Value) : Pk a (w.setCell ⟨p, i, none⟩ u) B p := by
  refine ⟨h.low.setCell hp _, fun k hk cs t fr hc ht => ?_⟩
  rw [Below.heap_setCell _ _ _ _ hk, h.typed k hk cs t fr hc ht]
theorem pk_box {w w' : World} {B p b t : Nat} {cs : Array Value} {fr : Nat × Nat} (h : Pk w w' B p) (hb : w.heap[b]? = some (.cells cs t fr)) (hbp : b ≠ p) (ht : t ≠ 5) (j : Nat) : w'.cell? ⟨b, j, none⟩ = cs[j]? := by
  rw [cell_of_row w' b j cs t fr (by rw [h.typed b hbp cs t fr hb ht]; exact hb)]
theorem BytesAt.news {w : World} {ad : Addr} {l : List UInt8} (h : BytesAt w (some ad) l) : ∀ j u, (bcells l)[j]? = some u → w.cell? (ad.add j) = some u := by
  intro j u hu
  unfold bcells at hu
  rw [List.getElem?_map] at hu
  cases hj : l[j]? with
  | none => rw [hj] at hu; simp at hu
  | some c =>
    obtain ⟨hlt, rfl⟩ := List.getElem?_eq_some_iff.1 hj
    rw [hj] at hu
    simp at hu
    subst hu
    obtain ⟨g, off, e, hg, hc⟩ := h j hlt
    cases e
    rw [Addr.add_lit]
    exact hc

theorem PkX.drew {w : World} {B p n : Nat} {l : List UInt8} {v : Value} (h : PkX w B p n l v) : PkX w.drew B p n l v := ⟨h.blk, h.own, h.base⟩
theorem PkAt.drew {w : World} {B p n : Nat} {l : List UInt8} {v : Value} (h : PkAt w B p n l v) : PkAt w.drew B p n l v := ⟨h.blk, h.own, h.base⟩
theorem Pk.drew {a w : World} {B p : Nat} (h : Pk a w B p) : Pk a w.drew B p := ⟨⟨h.low.os, h.low.tape, h.low.output, h.low.size, h.low.block⟩, h.typed⟩

set_option maxRecDepth 100000 in
set_option maxHeartbeats 4000000 in
theorem add_walk (W0 w : World) (B p n : Nat) (v val : Value) (l : List UInt8) (x : Itm) (ra da : Option Addr) (rc dc : Nat) (hit : ItemV W0 x val ra rc da dc) (hf : FitItm x)
    (hW : Below W0.heap.size W0 w) (h0 : W0.heap.size ≤ B) (hB : B ≤ w.heap.size) (hp : PkX w B p n l v) (hn : n ≤ 1000000) (hl : l.length ≤ 800000000) :
    Calls Tryd.prog 19 #[.pointer (some ⟨p, 0, none⟩), val] w fun e w' => e = .returned (.tuple #[]) ∧ ∃ v', PkAt w' B p (n + 1) (l ++ packItm x) v' ∧ Pk w w' B p := by
  obtain ⟨i0, hi, hz0, hz1, hz2⟩ := info_parts info5
  obtain ⟨rfl, hr, hd⟩ := hit
  have HR := Lib.hid hr
  have HD := Lib.hid hd
  have HF := Lib.hid hf
  have hpb : x.path.length ≤ 1023 := hf.path
  have htb : x.target.length ≤ 1023 := hf.target
  have hplt : p < w.heap.size := lt_whole hp.blk
  have hkz : ∃ kz : Nat, x.kind = (kz : Int) ∧ kz < 256 ∧ x.kind.toNat = kz := by
    rcases hf.kind with h | h | h | h
    · exact ⟨1, h, by omega, by omega⟩
    · exact ⟨2, h, by omega, by omega⟩
    · exact ⟨3, h, by omega, by omega⟩
    · exact ⟨4, h, by omega, by omega⟩
  obtain ⟨kz, hk1, hk2, hk3⟩ := hkz
  have hN1 : (n : Int) + 1 = ((n + 1 : Nat) : Int) := by omega
  have hpk0 : Pk w ((w.setCell ⟨p, 1, none⟩ (.int .i64 ((n : Int) + 1))).alloc (.cells #[.int .i64 x.kind, .string (strOf x.path), .string (strOf x.target), .int .i64 x.size, .slice ra x.runs.length rc, .slice da x.data.length dc] 47)) B p := ((Pk.refl w B p).setCell hp.base 1 _).alloc hB _
  have hpx0 : PkX (w.setCell ⟨p, 1, none⟩ (.int .i64 ((n : Int) + 1))) B p (n + 1) l v := by
    refine ⟨by rw [set_whole (i := 1) hp.blk, hN1]; rfl, ?_, hp.base⟩
    rcases hp.own with h | ⟨g, cs, fz, hv, hb, hg, hx⟩
    · refine .inl (h.keep fun k hk => Below.heap_setCell _ _ _ _ (fun e => ?_))
      obtain ⟨_, _, cur, h3⟩ := h.block hk
      simp only at e
      rw [e, hp.blk] at h3
      simp at h3
    · refine .inr ⟨g, cs, fz, hv, hb, ?_, hx⟩
      rw [Below.heap_setCell _ _ _ _ (fun e => ?_)]
      · exact hg
      · simp only at e
        rw [e, hp.blk] at hg
        simp at hg
  have hpx := hpx0.alloc (.cells #[.int .i64 x.kind, .string (strOf x.path), .string (strOf x.target), .int .i64 x.size, .slice ra x.runs.length rc, .slice da x.data.length dc] 47)
  have hbx : ((w.setCell ⟨p, 1, none⟩ (.int .i64 ((n : Int) + 1))).alloc (.cells #[.int .i64 x.kind, .string (strOf x.path), .string (strOf x.target), .int .i64 x.size, .slice ra x.runs.length rc, .slice da x.data.length dc] 47)).heap[w.heap.size]? = some (.cells #[.int .i64 x.kind, .string (strOf x.path), .string (strOf x.target), .int .i64 x.size, .slice ra x.runs.length rc, .slice da x.data.length dc] 47) := by
    have h := heap_alloc_new (w.setCell ⟨p, 1, none⟩ (.int .i64 ((n : Int) + 1))) (.cells #[.int .i64 x.kind, .string (strOf x.path), .string (strOf x.target), .int .i64 x.size, .slice ra x.runs.length rc, .slice da x.data.length dc] 47)
    rw [size_set] at h
    exact h
  have HPK0 := Lib.hid hpk0
  have HPX := Lib.hid hpx
  have HBX := Lib.hid hbx
  have HW := Lib.hid hW
  have hpne : w.heap.size ≠ p := by omega
  have HK1 := Lib.hid hk1
  have HK3 := Lib.hid hk3
  have c1w := cell_whole hp.blk 1
  have f1w := frozen_whole hp.blk 1
  simp only [List.getElem?_toArray, List.getElem?_cons_zero, List.getElem?_cons_succ] at c1w
  clear hr hd hf hp hpk0 hpx0 hpx hbx hW hk1 hk3
  clear hN1
  go_enter Tryd.func19, Tryd.ntmps19
  go_wp2_with fail
  generalize (w.setCell ⟨p, 1, none⟩ (.int .i64 ((n : Int) + 1))).alloc (.cells #[.int .i64 x.kind, .string (strOf x.path), .string (strOf x.target), .int .i64 x.size, .slice ra x.runs.length rc, .slice da x.data.length dc] 47) = w1 at *
  have hB1 : B ≤ w1.heap.size := Nat.le_trans hB HPK0.out.size
  have HBOX := Lib.hid (fun (wr : World) (h : Pk w1 wr B p) (j : Nat) => pk_box h HBX.out hpne (by decide) j)
  have hnum := pnum_walk B p (n + 1) v l kz 1 w1 (by omega) (by omega) (by omega) HPX.out hB1 (by omega)
  rw [show ((1 : Nat) : Int) = 1 from rfl, ← HK1.out] at hnum
  refine hnum.mono ?_
  clear hnum
  rintro e w2 ⟨rfl, v2, hp2, hr2⟩
  rw [show leB kz 1 = [UInt8.ofNat kz] from by simp [leB, Nat.mod_eq_of_lt hk2]] at hp2
  have c0 := HBOX.out w2 hr2 0
  have c1 := HBOX.out w2 hr2 1
  simp only [List.getElem?_toArray, List.getElem?_cons_zero, List.getElem?_cons_succ] at c0 c1
  have HR2 := Lib.hid hr2
  have htx := ptext_walk B p (n + 1) v2 _ x.path w2 (by omega) hp2 (Nat.le_trans hB1 hr2.size) (by rw [List.length_append, List.length_singleton]; omega)
  have HTX := Lib.hid htx
  clear hr2 hp2 htx
  go_wp2_with fail
  refine HTX.out.mono ?_
  rintro e w3 ⟨rfl, v3, hp3, hr3⟩
  have HR3 := Lib.hid (HR2.out.trans hr3)
  have HP3 := Lib.hid hp3
  have hl3 : (l ++ [UInt8.ofNat kz] ++ leB x.path.length 2 ++ x.path).length ≤ 800010000 := by simp only [List.length_append, leB_length, List.length_singleton]; omega
  have HM3 := Lib.hid (show l ++ [UInt8.ofNat kz] ++ leB x.path.length 2 ++ x.path = l ++ (UInt8.ofNat kz :: (leB x.path.length 2 ++ x.path)) by simp)
  clear hp3 hr3 c0 c1 HTX
  generalize l ++ [UInt8.ofNat kz] ++ leB x.path.length 2 ++ x.path = m3 at *
  have hB3 : B ≤ w3.heap.size := Nat.le_trans hB1 HR3.out.size
  have c0 := HBOX.out w3 HR3.out 0
  have c2 := HBOX.out w3 HR3.out 2
  have c3 := HBOX.out w3 HR3.out 3
  simp only [List.getElem?_toArray, List.getElem?_cons_zero, List.getElem?_cons_succ] at c0 c2 c3
  by_cases k1 : x.kind = 1
  · obtain ⟨htg, hfb⟩ := HF.out.file k1
    obtain ⟨q1, q2, q3, q4, q5, q6, q7⟩ := fileB_facts hfb
    have HRS := Lib.hid q3
    have hdl : x.data.length ≤ 8459776 := by omega
    have d1 : (x.kind == 1) = true := by rw [k1]; rfl
    have HPK := Lib.hid (show l ++ packItm x = m3 ++ leB x.size.toNat 8 ++ leB x.runs.length 4 ++ packRuns x.runs ++ x.data by
      unfold packItm
      rw [if_pos k1, if_neg (by omega), HK3.out, HM3.out]
      simp)
    have hnum := pnum_walk B p (n + 1) v3 m3 x.size.toNat 8 w3 (by omega) (by omega) (by omega) HP3.out.x hB3 (by omega)
    rw [show ((8 : Nat) : Int) = 8 from rfl, show ((x.size.toNat : Nat) : Int) = x.size by omega] at hnum
    have HNUM := Lib.hid hnum
    clear hnum q3 q5 q6 q7 htg hfb k1
    go_wp2_with fail
    refine HNUM.out.mono ?_
    rintro e w4 ⟨rfl, v4, hp4, hr4⟩
    have HR4 := Lib.hid (HR3.out.trans hr4)
    have HP4 := Lib.hid hp4
    clear hp4 hr4 HNUM c0 c2 c3
    have c4 := HBOX.out w4 HR4.out 4
    simp only [List.getElem?_toArray, List.getElem?_cons_zero, List.getElem?_cons_succ] at c4
    have hB4 : B ≤ w4.heap.size := Nat.le_trans hB1 HR4.out.size
    have hl4 : (m3 ++ leB x.size.toNat 8).length ≤ 800010008 := by rw [List.length_append, leB_length]; omega
    generalize m3 ++ leB x.size.toNat 8 = m4 at *
    have hnum := pnum_walk B p (n + 1) v4 m4 x.runs.length 4 w4 (by omega) (by omega) (by omega) HP4.out.x hB4 (by omega)
    rw [show ((4 : Nat) : Int) = 4 from rfl] at hnum
    have HNUM := Lib.hid hnum
    clear hnum
    go_wp2_with fail
    refine HNUM.out.mono ?_
    rintro e w5 ⟨rfl, v5, hp5, hr5⟩
    have HR5 := Lib.hid (HR4.out.trans hr5)
    have HP5 := Lib.hid hp5
    clear hp5 hr5 HNUM c4
    have c4 := HBOX.out w5 HR5.out 4
    simp only [List.getElem?_toArray, List.getElem?_cons_zero, List.getElem?_cons_succ] at c4
    have hl5 : (m4 ++ leB x.runs.length 4).length ≤ 800010012 := by rw [List.length_append, leB_length]; omega
    generalize m4 ++ leB x.runs.length 4 = m5 at *
    have HBW0 := Lib.hid (show ∀ (wr : World), Pk w1 wr B p → Below W0.heap.size W0 wr from fun wr h => HW.out.trans ((HPK0.out.trans h).low.mono h0))
    go_wp2
    go_loopw [37] (fun v37 wr => ∃ k : Nat, k ≤ x.runs.length ∧ v37 = .int .i64 k ∧ (∃ v', PkAt wr B p (n + 1) (m5 ++ packRuns (x.runs.take k)) v') ∧ Pk w1 wr B p) (fun v37 _ => x.runs.length - (intOf v37).toNat)
    case atStart => exact ⟨0, by omega, rfl, ⟨v5, by simpa [packRuns] using HP5.out⟩, HR5.out⟩
    case round =>
      obtain ⟨k, hk, rfl, ⟨v6, hp6⟩, hr6⟩ := hrel
      have HP6 := Lib.hid hp6
      have HR6 := Lib.hid hr6
      clear hp6 hr6 c4
      have hB6 : B ≤ wr.heap.size := Nat.le_trans hB1 HR6.out.size
      by_cases hlt : k < x.runs.length
      · obtain ⟨g, off, rfl, hg, hc1, hc2⟩ := (HR.out.below (HBW0.out wr HR6.out)) k hlt
        have HTK := Lib.hid (List.take_succ_eq_append_getElem hlt)
        obtain ⟨r1, r2, r3⟩ := HRS.out x.runs[k] (List.getElem_mem hlt)
        have HSNO := Lib.hid (packRuns_snoc (x.runs.take k) x.runs[k])
        have hml : (m5 ++ packRuns (x.runs.take k)).length ≤ 800150100 := by rw [List.length_append, packRuns_len, List.length_take]; omega
        generalize hff : x.runs[k].1 = ff at *
        generalize htt : x.runs[k].2 = tt at *
        generalize hq : m5 ++ packRuns (x.runs.take k) = q at *
        have HQ := Lib.hid hq
        clear hff htt hq
        have hwx := HP6.out.alloc (.cells #[.int .i64 ff, .int .i64 tt] 49)
        have hnum := pnum_walk B p (n + 1) v6 q ff.toNat 4 (wr.alloc (.cells #[.int .i64 ff, .int .i64 tt] 49)) (by omega) (by omega) (by omega) hwx.x (le_alloc hB6 _) (by omega)
        rw [show ((4 : Nat) : Int) = 4 from rfl, show ((ff.toNat : Nat) : Int) = ff by omega] at hnum
        have HNUM := Lib.hid hnum
        have HRB := Lib.hid (HR6.out.alloc hB1 (.cells #[.int .i64 ff, .int .i64 tt] 49))
        have hpw : p < wr.heap.size := lt_whole HP6.out.blk
        have HBX2 := Lib.hid (heap_alloc_new wr (.cells #[.int .i64 ff, .int .i64 tt] 49))
        clear hnum hwx
        go_wp2_with fail
        refine HNUM.out.mono ?_
        rintro e w7 ⟨rfl, v7, hp7, hr7⟩
        have HR7 := Lib.hid (HRB.out.trans hr7)
        have HP7 := Lib.hid hp7
        have e1 := pk_box hr7 HBX2.out (by omega) (by decide) 1
        simp only [List.getElem?_toArray, List.getElem?_cons_zero, List.getElem?_cons_succ] at e1
        clear hp7 hr7 HNUM HBX2 HRB
        have hB7 : B ≤ w7.heap.size := Nat.le_trans hB1 HR7.out.size
        have hm7l : (q ++ leB ff.toNat 4).length ≤ 800150104 := by rw [List.length_append, leB_length]; omega
        have hnum := pnum_walk B p (n + 1) v7 (q ++ leB ff.toNat 4) tt.toNat 4 w7 (by omega) (by omega) (by omega) HP7.out.x hB7 (by omega)
        rw [show ((4 : Nat) : Int) = 4 from rfl, show ((tt.toNat : Nat) : Int) = tt by omega] at hnum
        have HNUM := Lib.hid hnum
        clear hnum
        go_wp2_with fail
        refine HNUM.out.mono ?_
        rintro e w8 ⟨rfl, v8, hp8, hr8⟩
        have e8 : q ++ leB ff.toNat 4 ++ leB tt.toNat 4 = m5 ++ packRuns (x.runs.take (k + 1)) := by
          rw [HTK.out, HSNO.out, ← HQ.out]
          simp
        rw [e8] at hp8
        have HP8 := Lib.hid hp8
        have HR8 := Lib.hid (HR7.out.trans hr8)
        clear hp8 hr8 HNUM e8 hm7l
        go_wp2
        go_roundw
        case rel => exact ⟨k + 1, by omega, by go_num, ⟨_, HP8.out⟩, HR8.out⟩
        case measure => simp [intOf]; omega
      · obtain rfl : k = x.runs.length := by omega
        rw [List.take_length] at HP6
        have hm6l : (m5 ++ packRuns x.runs).length ≤ 800200000 := by rw [List.length_append, packRuns_len]; omega
        clear hlt hk
        generalize m5 ++ packRuns x.runs = m6 at *
        go_wp2
        have c5 := HBOX.out wr HR6.out 5
        have e0 := cell_whole HP6.out.blk 0
        simp only [List.getElem?_toArray, List.getElem?_cons_zero, List.getElem?_cons_succ] at c5 e0
        have HDW := Lib.hid (HD.out.below (HBW0.out wr HR6.out))
        cases da with
        | none =>
          have hx0 : x.data = [] := by
            rcases hd : x.data with _ | ⟨c, r⟩
            · rfl
            · obtain ⟨g, off, e, _⟩ := HDW.out 0 (by rw [hd]; simp)
              cases e
          have HPK2 := Lib.hid (show l ++ packItm x = m6 by rw [HPK.out, hx0]; simp)
          have hdz : x.data.length = 0 := by rw [hx0]; rfl
          rw [hdz] at c5
          clear HDW hdl
          obtain ⟨a6, d6, rfl⟩ := HP6.out.own.form
          have f0 := frozen_whole HP6.out.blk 0
          have HP9 : Hid (PkAt (wr.drew.setCell ⟨p, 0, none⟩ (.slice a6 m6.length d6)) B p (n + 1) m6 (.slice a6 m6.length d6)) := Lib.hid ⟨by rw [set_whole (i := 0) HP6.out.drew.blk]; rfl, HP6.out.drew.own.keep fun k hk => Below.heap_setCell _ _ _ _ (fun e => by
            obtain ⟨_, _, cur, h3⟩ := HP6.out.own.block hk
            simp only at e
            rw [e, HP6.out.blk] at h3
            simp at h3), HP6.out.base⟩
          have HR9 := Lib.hid (HPK0.out.trans (HR6.out.drew.setCell HP6.out.base 0 (.slice a6 m6.length d6)))
          refine wp_canon (by kernel_rfl) (by kernel_rfl) ?_
          go_wp2_with (at_builtin; refine wpList_append_own_none2 rfl _ _ 24 rfl B 5 i0 1 dc Tryd.underlying24 hi _ m6.length _ rfl HP6.out.own rfl ?_)
          go_wp2
          refine ⟨rfl, ?_⟩
          go_wp2
          go_end0
          exact ⟨rfl, _, by rw [HPK2.out]; exact HP9.out, HR9.out⟩
        | some ad =>
          refine wp_canon (by kernel_rfl) (by kernel_rfl) ?_
          go_wp2_with (at_builtin; refine wpList_append_own _ rfl _ _ 24 rfl B 5 i0 (.int .u8 0) 1 1 Tryd.underlying24 hi hz0 hz1 hz2 rfl (by decide) _ m6.length _ rfl HP6.out.own ad x.data.length dc (bcells x.data) rfl (by rw [bcells_length]; omega) HDW.out.news (bcells_oneCell _) (by unfold maxLen; omega) (by omega) hB6 ?_)
          intro v9 w9 h9 hg9 _
          obtain ⟨a9, d9, rfl⟩ := Own.form h9
          obtain ⟨⟨e0', e1', f0'⟩, hpk, hfr⟩ := pk_push (m := x.data) HP6.out.x.drew hB6 h9 hg9
          have HP9 := Lib.hid hpk
          have HR9 := Lib.hid (HPK0.out.trans (HR6.out.drew.trans hfr))
          clear h9 hg9 hpk hfr e0
          go_wp2
          refine ⟨rfl, ?_⟩
          go_wp2
          go_end0
          exact ⟨rfl, _, by rw [HPK.out]; exact HP9.out, HR9.out⟩
  · have d1 : (x.kind == 1) = false := by rw [beq_eq_false_iff_ne]; exact k1
    have HK1n := Lib.hid k1
    clear k1
    by_cases k34 : x.kind = 3 ∨ x.kind = 4
    · have HPK := Lib.hid (show l ++ packItm x = m3 ++ leB x.target.length 2 ++ x.target by
        unfold packItm
        rw [if_neg HK1n.out, if_pos k34, HK3.out, HM3.out]
        simp)
      have dd : (x.kind == 3) = true ∨ ((x.kind == 3) = false ∧ (x.kind == 4) = true) := by
        rcases k34 with h | h
        · exact .inl (by rw [h]; rfl)
        · exact .inr ⟨by rw [h]; rfl, by rw [h]; rfl⟩
      have HTX := Lib.hid (ptext_walk B p (n + 1) v3 m3 x.target w3 (by omega) HP3.out hB3 (by omega))
      clear k34
      rcases dd with dd | ⟨dd, dd2⟩
      all_goals
        go_wp2_with fail
        refine HTX.out.mono ?_
        rintro e w4 ⟨rfl, v4, hp4, hr4⟩
        have HP4 := Lib.hid hp4
        have HR4 := Lib.hid (HPK0.out.trans (HR3.out.trans hr4))
        clear hp4 hr4 HTX c0 c2 c3
        go_wp2
        go_end0
        exact ⟨rfl, _, by rw [HPK.out]; exact HP4.out, HR4.out⟩
    · have d2 : (x.kind == 3) = false := by rw [beq_eq_false_iff_ne]; exact fun e => k34 (.inl e)
      have d3 : (x.kind == 4) = false := by rw [beq_eq_false_iff_ne]; exact fun e => k34 (.inr e)
      have HPK := Lib.hid (show l ++ packItm x = m3 by
        unfold packItm
        rw [if_neg HK1n.out, if_neg k34, HK3.out, HM3.out]
        simp)
      have HR9 := Lib.hid (HPK0.out.trans HR3.out)
      clear k34
      go_wp2
      go_end0
      exact ⟨rfl, _, by rw [HPK.out]; exact HP3.out, HR9.out⟩
end Go.Proofs.YtenpihkfghfpaaaDoor
