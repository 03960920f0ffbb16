/- Items in memory. -/
import Derived.Test.YtenpihkfghfpaaaDoorDSumW
import Derived.Test.YtenpihkfghfpaaaDoorDKey
namespace Go.Proofs.YtenpihkfghfpaaaDoor
open Go.RowKit Vl
set_option linter.unusedVariables false

/-- Rows of a file, as they can be read. -/
def RunsAt (w : World) (a : Option Addr) (rs : List (Int × Int)) : Prop :=
  ∀ i (h : i < rs.length), ∃ g off, a = some ⟨g, off, none⟩ ∧ g < w.heap.size ∧ w.cell? ⟨g, off + i * 2, none⟩ = some (.int .i64 rs[i].1) ∧ w.cell? ⟨g, off + i * 2 + 1, none⟩ = some (.int .i64 rs[i].2)
theorem RunsAt.below {w w' : World} {a : Option Addr} {l : List (Int × Int)} (h : RunsAt w a l) (hb : Below w.heap.size w w') : RunsAt w' a l := by
  intro i hi
  obtain ⟨g, off, h1, h2, h3, h4⟩ := h i hi
  exact ⟨g, off, h1, Nat.lt_of_lt_of_le h2 hb.size, by rw [hb.cell h2]; exact h3, by rw [hb.cell h2]; exact h4⟩

/-- A number that an int holds. -/
def I64 (n : Int) : Prop := -9223372036854775808 ≤ n ∧ n ≤ 9223372036854775807
/-- The sizes of an item's parts, as any item has them. -/
structure SizeItm (x : Itm) : Prop where
  kind : I64 x.kind
  size : I64 x.size
  path : x.path.length ≤ maxLen
  target : x.target.length ≤ maxLen
  runs : x.runs.length * 16 ≤ 140737488351232
  data : x.data.length ≤ 140737488351232
  nums : ∀ r ∈ x.runs, I64 r.1 ∧ I64 r.2

/-- An item as a value. -/
structure ItemV (w : World) (x : Itm) (v : Value) (ra : Option Addr) (rc : Nat) (da : Option Addr) (dc : Nat) : Prop where
  val : v = .agg #[.int .i64 x.kind, .string (strOf x.path), .string (strOf x.target), .int .i64 x.size, .slice ra x.runs.length rc, .slice da x.data.length dc]
  runs : RunsAt w ra x.runs
  data : BytesAt w da x.data
theorem ItemV.below {w w' : World} {x : Itm} {v : Value} {ra da : Option Addr} {rc dc : Nat} (h : ItemV w x v ra rc da dc) (hb : Below w.heap.size w w') : ItemV w' x v ra rc da dc :=
  ⟨h.val, h.runs.below hb, h.data.below hb⟩

theorem runsB_step {cap last count f t : Int} {rs : List (Int × Int)} (h : ¬ (f ≤ last ∨ t ≤ f ∨ cap < t)) : runsB cap last count ((f, t) :: rs) = runsB cap t (count + (t - f)) rs := by
  rw [runsB, if_neg h]
theorem runsB_stop {cap last count f t : Int} {rs : List (Int × Int)} (h : f ≤ last ∨ t ≤ f ∨ cap < t) : runsB cap last count ((f, t) :: rs) = none := by
  rw [runsB, if_pos h]
theorem fileB_of {x : Itm} (h0 : 0 ≤ x.size) (h1 : x.size ≤ 8459264) {last count : Int} (hr : runsB ((x.size + 511) / 512) (-1) 0 x.runs = some (last, count)) :
    fileB x = (decide ((x.data.length : Int) = 512 * count) && (decide (last ≤ 0) || (x.data.drop (x.data.length - (512 * last - x.size).toNat)).all (· == 0))) := by
  unfold fileB
  rw [decide_eq_true h0, decide_eq_true h1, hr]
  rfl
theorem fileB_none {x : Itm} (hr : runsB ((x.size + 511) / 512) (-1) 0 x.runs = none) : fileB x = false := by
  unfold fileB
  rw [hr]
  simp
theorem drop_zeros {l : List UInt8} {i : Nat} (h : i < l.length) (hz : (l.drop (l.length - i)).all (· == 0) = true) : (l.drop (l.length - (i + 1))).all (· == 0) = (l[l.length - 1 - i] == 0) := by
  have e : l.drop (l.length - (i + 1)) = l[l.length - 1 - i] :: l.drop (l.length - i) := by
    rw [List.drop_eq_getElem_cons (show l.length - (i + 1) < l.length by omega)]
    congr 1
    · congr 1; omega
    · congr 1; omega
  rw [e, List.all_cons, hz, Bool.and_true]
theorem drop_bad {l : List UInt8} {i n : Nat} (h : i < l.length) (hin : i < n) (hb : l[l.length - 1 - i] ≠ 0) : (l.drop (l.length - n)).all (· == 0) = false := by
  rw [Bool.eq_false_iff]
  intro ht
  have := List.all_eq_true.1 ht (l[l.length - 1 - i]) (by
    rw [List.mem_iff_getElem]
    refine ⟨l.length - 1 - i - (l.length - n), by rw [List.length_drop]; omega, ?_⟩
    rw [List.getElem_drop]
    congr 1
    omega)
  exact hb (by simpa using this)
/-- Behind k rows that were right. -/
structure RInv (x : Itm) (k : Nat) (last count : Int) : Prop where
  run : runsB ((x.size + 511) / 512) (-1) 0 x.runs = runsB ((x.size + 511) / 512) last count (x.runs.drop k)
  l0 : -1 ≤ last
  l1 : last ≤ 16522
  lc : last ≤ (x.size + 511) / 512 ∨ last = -1
  c0 : 0 ≤ count
  c1 : count ≤ last + 1
  pos : 0 < last → 1 ≤ count
  pos2 : 1 ≤ count → 0 < last
theorem RInv.start (x : Itm) : RInv x 0 (-1) 0 := ⟨rfl, by omega, by omega, .inr rfl, by omega, by omega, by omega, by omega⟩
theorem RInv.next {x : Itm} {k : Nat} {last count : Int} (h : RInv x k last count) (hk : k < x.runs.length) (hsz : x.size ≤ 8459264) (hn : ¬ (x.runs[k].1 ≤ last ∨ x.runs[k].2 ≤ x.runs[k].1 ∨ (x.size + 511) / 512 < x.runs[k].2)) :
    RInv x (k + 1) x.runs[k].2 (count + x.runs[k].2 - x.runs[k].1) := by
  have h0 := h.l0
  have h1 := h.c0
  have h2 := h.c1
  have n1 : ¬ x.runs[k].1 ≤ last := fun e => hn (.inl e)
  have n2 : ¬ x.runs[k].2 ≤ x.runs[k].1 := fun e => hn (.inr (.inl e))
  have n3 : ¬ (x.size + 511) / 512 < x.runs[k].2 := fun e => hn (.inr (.inr e))
  refine ⟨?_, by omega, by omega, .inl (by omega), by omega, by omega, fun _ => by omega, fun _ => by omega⟩
  rw [h.run, List.drop_eq_getElem_cons hk]
  have := runsB_step (cap := (x.size + 511) / 512) (last := last) (count := count) (f := x.runs[k].1) (t := x.runs[k].2) (rs := x.runs.drop (k + 1)) hn
  rw [show count + x.runs[k].2 - x.runs[k].1 = count + (x.runs[k].2 - x.runs[k].1) by omega]
  exact this
theorem RInv.stop {x : Itm} {k : Nat} {last count : Int} (h : RInv x k last count) (hk : k < x.runs.length) (hn : x.runs[k].1 ≤ last ∨ x.runs[k].2 ≤ x.runs[k].1 ∨ (x.size + 511) / 512 < x.runs[k].2) : fileB x = false := by
  refine fileB_none ?_
  rw [h.run, List.drop_eq_getElem_cons hk]
  exact runsB_stop hn
theorem RInv.done {x : Itm} {k : Nat} {last count : Int} (h : RInv x k last count) (hk : k = x.runs.length) : runsB ((x.size + 511) / 512) (-1) 0 x.runs = some (last, count) := by
  rw [h.run, hk, List.drop_length]; rfl

theorem box_cells {w wr : World} {c0 c1 c2 c3 c4 c5 : Value} (hb : Below (w.alloc (.cells #[c0, c1, c2, c3, c4, c5] 47)).heap.size (w.alloc (.cells #[c0, c1, c2, c3, c4, c5] 47)) wr) :
    wr.cell? ⟨w.heap.size, 0, none⟩ = some c0 ∧ wr.cell? ⟨w.heap.size, 1, none⟩ = some c1 ∧ wr.cell? ⟨w.heap.size, 2, none⟩ = some c2 ∧ wr.cell? ⟨w.heap.size, 3, none⟩ = some c3 ∧ wr.cell? ⟨w.heap.size, 4, none⟩ = some c4 ∧ wr.cell? ⟨w.heap.size, 5, none⟩ = some c5 := by
  have hl : w.heap.size < (w.alloc (.cells #[c0, c1, c2, c3, c4, c5] 47)).heap.size := by rw [size_alloc]; omega
  have h := cell_whole (heap_alloc_new w (.cells #[c0, c1, c2, c3, c4, c5] 47))
  exact ⟨by rw [hb.cell (p := ⟨w.heap.size, 0, none⟩) hl]; exact h 0, by rw [hb.cell (p := ⟨w.heap.size, 1, none⟩) hl]; exact h 1, by rw [hb.cell (p := ⟨w.heap.size, 2, none⟩) hl]; exact h 2,
    by rw [hb.cell (p := ⟨w.heap.size, 3, none⟩) hl]; exact h 3, by rw [hb.cell (p := ⟨w.heap.size, 4, none⟩) hl]; exact h 4, by rw [hb.cell (p := ⟨w.heap.size, 5, none⟩) hl]; exact h 5⟩

set_option maxRecDepth 100000 in
set_option maxHeartbeats 4000000 in
theorem refFile_walk (x : Itm) (v : Value) (ra da : Option Addr) (rc dc : Nat) (w : World) (h : ItemV w x v ra rc da dc) (hs : SizeItm x) :
    Calls Tryd.prog 42 #[v] w fun e w' => e = .returned (.bool (x.target.isEmpty && fileB x)) ∧ Below w.heap.size w w' := by
  obtain ⟨rfl, hr, hd⟩ := h
  have hsz := hs.size
  unfold I64 at hsz
  have HR := Lib.hid hr
  have HD := Lib.hid hd
  have HS := Lib.hid hs
  have hrl : x.runs.length ≤ 10000000000000 := by have := hs.runs; omega
  have hdl : x.data.length ≤ 140737488351232 := hs.data
  clear hr hd hs
  have bad : fileB x = false ∨ x.target ≠ [] → (x.target.isEmpty && fileB x) = false := by
    rintro (h | h)
    · rw [h, Bool.and_false]
    · have : x.target.isEmpty = false := by rw [List.isEmpty_eq_false_iff]; exact h
      rw [this, Bool.false_and]
  by_cases h0 : x.size < 0
  · have HF := Lib.hid (bad (.inl (by unfold fileB; rw [decide_eq_false (show ¬ 0 ≤ x.size by omega)]; rfl)))
    have b1 : decide (x.size < 0) = true := decide_eq_true h0
    clear bad h0
    go_enter Tryd.func42, Tryd.ntmps42
    go_wp2
    go_ret
    exact ⟨by rw [HF.out]; rfl, (Below.refl _ _).alloc (Nat.le_refl _) _⟩
  · by_cases h1 : 8459264 < x.size
    · have HF := Lib.hid (bad (.inl (by unfold fileB; rw [decide_eq_false (show ¬ x.size ≤ 8459264 by omega), Bool.and_false]; rfl)))
      have b1 : decide (x.size < 0) = false := decide_eq_false h0
      have b2 : decide (8459264 < x.size) = true := decide_eq_true h1
      clear bad h0 h1
      go_enter Tryd.func42, Tryd.ntmps42
      go_wp2
      go_ret
      exact ⟨by rw [HF.out]; rfl, (Below.refl _ _).alloc (Nat.le_refl _) _⟩
    · by_cases ht : x.target = []
      · have b1 : decide (x.size < 0) = false := decide_eq_false h0
        have b2 : decide (8459264 < x.size) = false := decide_eq_false h1
        have b3 : (strOf x.target).toList.isEmpty = true := by rw [ByteArray.toList_eq, strOf_data, ht]; rfl
        have HE := Lib.hid (show (x.target.isEmpty && fileB x) = fileB x by rw [ht]; rfl)
        clear bad ht
        go_enter Tryd.func42, Tryd.ntmps42
        go_wp2
        have hbw : Below w.heap.size w (w.alloc (.cells #[.int .i64 x.kind, .string (strOf x.path), .string (strOf x.target), .int .i64 x.size, .slice ra x.runs.length rc, .slice da x.data.length dc] 47)) := (Below.refl _ _).alloc (Nat.le_refl _) _
        have HBW := Lib.hid hbw
        clear hbw
        have HBOX := Lib.hid (fun (wr : World) => box_cells (w := w) (wr := wr) (c0 := .int .i64 x.kind) (c1 := .string (strOf x.path)) (c2 := .string (strOf x.target)) (c3 := .int .i64 x.size) (c4 := .slice ra x.runs.length rc) (c5 := .slice da x.data.length dc))
        have HW1 : Hid (w.heap.size < (w.alloc (.cells #[.int .i64 x.kind, .string (strOf x.path), .string (strOf x.target), .int .i64 x.size, .slice ra x.runs.length rc, .slice da x.data.length dc] 47)).heap.size) := Lib.hid (by rw [size_alloc]; omega)
        generalize w.alloc (.cells #[.int .i64 x.kind, .string (strOf x.path), .string (strOf x.target), .int .i64 x.size, .slice ra x.runs.length rc, .slice da x.data.length dc] 47) = w1 at *
        go_loopw [3, 4, 5] (fun v3 v4 v5 wr => ∃ (k : Nat) (last count : Int), k ≤ x.runs.length ∧ v5 = .int .i64 k ∧ v3 = .int .i64 last ∧ v4 = .int .i64 count ∧ RInv x k last count ∧ Below w1.heap.size w1 wr) (fun _ _ v5 _ => x.runs.length - (intOf v5).toNat)
        case atStart => exact ⟨0, -1, 0, by omega, rfl, rfl, rfl, RInv.start x, Below.refl _ _⟩
        case round =>
          obtain ⟨k, last, count, hk, rfl, rfl, rfl, hinv, hb⟩ := hrel
          obtain ⟨f0, f1, f2, f3, f4, f5⟩ := HBOX.out wr hb
          have HB := Lib.hid hb
          have HINV := Lib.hid hinv
          clear hb hinv
          by_cases hlt : k < x.runs.length
          · obtain ⟨g, off, rfl, hg, hc1, hc2⟩ := (HR.out.below (HBW.out.trans (HB.out.mono HBW.out.size))) k hlt
            have hl : w.heap.size < wr.heap.size := Nat.lt_of_lt_of_le HW1.out HB.out.size
            have HNX := Lib.hid (fun hn => HINV.out.next hlt (by omega) hn)
            have HST := Lib.hid (fun hn => HINV.out.stop hlt hn)
            have hi0 := HINV.out.l0
            have hi1 := HINV.out.l1
            have hi2 := HINV.out.c0
            have hi3 := HINV.out.c1
            generalize hf : x.runs[k].1 = f at *
            generalize ht : x.runs[k].2 = t at *
            clear hf ht
            by_cases n1 : f ≤ last
            · have HF := Lib.hid (HST.out (.inl n1))
              have d1 : decide (f ≤ last) = true := decide_eq_true n1
              clear n1
              go_wp2
              go_ret
              exact ⟨by rw [HE.out, HF.out]; rfl, (HBW.out.trans (HB.out.mono HBW.out.size)).alloc (by omega) _⟩
            · by_cases n2 : t ≤ f
              · have HF := Lib.hid (HST.out (.inr (.inl n2)))
                have d1 : decide (f ≤ last) = false := decide_eq_false n1
                have d2 : decide (t ≤ f) = true := decide_eq_true n2
                clear n1 n2
                go_wp2
                go_ret
                exact ⟨by rw [HE.out, HF.out]; rfl, (HBW.out.trans (HB.out.mono HBW.out.size)).alloc (by omega) _⟩
              · have d1 : decide (f ≤ last) = false := decide_eq_false n1
                have d2 : decide (t ≤ f) = false := decide_eq_false n2
                have hq : Int.tdiv (x.size + 511) 512 = (x.size + 511) / 512 := Int.tdiv_eq_ediv_of_nonneg (by omega)
                by_cases n3 : (x.size + 511) / 512 < t
                · have HF := Lib.hid (HST.out (.inr (.inr n3)))
                  have d3 : decide ((x.size + 511) / 512 < t) = true := decide_eq_true n3
                  clear n1 n2 n3
                  go_wp2
                  go_ret
                  exact ⟨by rw [HE.out, HF.out]; rfl, (HBW.out.trans (HB.out.mono HBW.out.size)).alloc (by omega) _⟩
                · have HNXX := Lib.hid (HNX.out (by omega))
                  have d3 : decide ((x.size + 511) / 512 < t) = false := decide_eq_false n3
                  have hf0 : 0 ≤ f := by omega
                  have ht0 : t ≤ 16522 := by omega
                  have hft : f < t := by omega
                  clear n1 n2 n3
                  go_wp2
                  go_roundw
                  case rel => exact ⟨k + 1, t, count + t - f, by omega, by go_num, rfl, rfl, HNXX.out, HB.out.alloc HB.out.size _⟩
                  case measure => simp [intOf]; omega
          · obtain rfl : k = x.runs.length := by omega
            have HDONE := Lib.hid (fileB_of (by omega) (by omega) (HINV.out.done rfl))
            have hi0 := HINV.out.l0
            have hi1 := HINV.out.l1
            have hi2 := HINV.out.c0
            have hi3 := HINV.out.c1
            have hi4 := HINV.out.pos
            have hi5 := HINV.out.lc
            by_cases hc : (x.data.length : Int) = 512 * count
            · have d1 : ((x.data.length : Int) != 512 * count) = false := by rw [hc]; simp
              rw [decide_eq_true hc, Bool.true_and] at HDONE
              have hc1 : (x.data.length : Int) ≤ 512 * count := by omega
              have hc2 : 512 * count ≤ (x.data.length : Int) := by omega
              clear hc
              go_wp2
              go_loopw [8] (fun v8 wr2 => ∃ i : Nat, v8 = .int .i64 i ∧ (i : Int) ≤ max (512 * last - x.size) 0 ∧ (x.data.drop (x.data.length - i)).all (· == 0) = true ∧ Below w1.heap.size w1 wr2) (fun v8 _ => (512 * last - x.size).toNat - (intOf v8).toNat)
              case atStart => exact ⟨0, rfl, by omega, by simp, HB.out⟩
              case round =>
                obtain ⟨i, rfl, hi, hz, hb⟩ := hrel
                obtain ⟨f0, f1, f2, f3, f4, f5⟩ := HBOX.out wr hb
                have HB2 := Lib.hid hb
                have HZ := Lib.hid hz
                clear hb hz
                by_cases hgo : (i : Int) < 512 * last - x.size
                · by_cases hlast : 0 < last
                  · have hlen : i < x.data.length := by omega
                    obtain ⟨jj, hjj⟩ : ∃ jj, jj = x.data.length - 1 - i := ⟨_, rfl⟩
                    have hx1 : jj < x.data.length := by omega
                    obtain ⟨g, off, rfl, hg, hcc⟩ := (HD.out.below (HBW.out.trans (HB2.out.mono HBW.out.size))) jj hx1
                    have e1 : (x.data.length : Int) - 1 - (i : Int) = (jj : Int) := by omega
                    have HZS := Lib.hid (drop_zeros hlen HZ.out)
                    have HZB := Lib.hid (fun hne => drop_bad (n := (512 * last - x.size).toNat) hlen (by omega) hne)
                    rw [show x.data[x.data.length - 1 - i]'(by omega) = x.data[jj] by congr 1; exact hjj.symm] at HZS HZB
                    clear hjj
                    have d3 : decide ((i : Int) < 512 * last - x.size) = true := decide_eq_true hgo
                    have d4 : decide (0 < last) = true := decide_eq_true hlast
                    by_cases hzz : x.data[jj] = 0
                    · have n0 : ((((x.data[jj].toNat : Nat) : Int)) != 0) = false := by rw [hzz]; rfl
                      have HZN := Lib.hid (show (x.data.drop (x.data.length - (i + 1))).all (· == 0) = true by rw [HZS.out, hzz]; rfl)
                      clear hzz
                      generalize ((x.data[jj].toNat : Nat) : Int) = z at *
                      go_wp2
                      go_roundw
                      case rel => exact ⟨i + 1, by go_num, by omega, HZN.out, HB2.out⟩
                      case measure => simp [intOf]; omega
                    · have n0 : ((((x.data[jj].toNat : Nat) : Int)) != 0) = true := by
                        rw [bne_iff_ne]; exact fun e => hzz (UInt8.toNat_inj.1 (by simpa using Int.ofNat_inj.1 e))
                      have HF := Lib.hid (show fileB x = false by
                        rw [HDONE.out, HZB.out hzz, Bool.or_false]
                        exact decide_eq_false (by omega))
                      clear hzz
                      generalize ((x.data[jj].toNat : Nat) : Int) = z at *
                      go_wp2
                      go_ret
                      exact ⟨by rw [HE.out, HF.out]; rfl, HBW.out.trans (HB2.out.mono HBW.out.size)⟩
                  · have d3 : decide ((i : Int) < 512 * last - x.size) = true := decide_eq_true hgo
                    have d4 : decide (0 < last) = false := decide_eq_false hlast
                    have HF := Lib.hid (show fileB x = true by rw [HDONE.out, decide_eq_true (show last ≤ 0 by omega)]; rfl)
                    go_wp2
                    go_ret
                    exact ⟨by rw [HE.out, HF.out]; rfl, HBW.out.trans (HB2.out.mono HBW.out.size)⟩
                · have d3 : decide ((i : Int) < 512 * last - x.size) = false := decide_eq_false hgo
                  have HF := Lib.hid (show fileB x = true by
                    rw [HDONE.out]
                    have e : (512 * last - x.size).toNat = i := by omega
                    rw [e, HZ.out, Bool.or_true])
                  go_wp2
                  go_ret
                  exact ⟨by rw [HE.out, HF.out]; rfl, HBW.out.trans (HB2.out.mono HBW.out.size)⟩
            · have d1 : ((x.data.length : Int) != 512 * count) = true := by rw [bne_iff_ne]; exact hc
              have HF := Lib.hid (show fileB x = false by rw [HDONE.out, decide_eq_false hc]; rfl)
              go_wp2
              go_ret
              exact ⟨by rw [HE.out, HF.out]; rfl, HBW.out.trans (HB.out.mono HBW.out.size)⟩
      · have HF := Lib.hid (bad (.inr ht))
        have b1 : decide (x.size < 0) = false := decide_eq_false h0
        have b2 : decide (8459264 < x.size) = false := decide_eq_false h1
        have b3 : (strOf x.target).toList.isEmpty = false := by rw [ByteArray.toList_eq, strOf_data, List.isEmpty_eq_false_iff]; exact ht
        clear bad h0 h1 ht
        go_enter Tryd.func42, Tryd.ntmps42
        go_wp2
        go_ret
        exact ⟨by rw [HF.out]; rfl, (Below.refl _ _).alloc (Nat.le_refl _) _⟩
end Go.Proofs.YtenpihkfghfpaaaDoor
