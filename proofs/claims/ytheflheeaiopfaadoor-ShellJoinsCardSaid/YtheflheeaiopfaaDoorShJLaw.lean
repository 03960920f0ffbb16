/- ShellJoins: the law's function, walked. -/
import Derived.Test.YtheflheeaiopfaaDoorShQLaw
import Derived.Lib.SlBytesConst
namespace Go.Proofs.YtheflheeaiopfaaDoor
open Go.RowKit Vl
set_option linter.unusedVariables false

/-- A slice of slices of bytes that came in. -/
def WordsAt (w : World) (A : Option Addr) (ls : List (List UInt8)) : Prop :=
  ∀ i (h : i < ls.length), ∃ G O a c, A = some ⟨G, O, none⟩ ∧ G < w.heap.size ∧ w.cell? ⟨G, O + i, none⟩ = some (.slice a ls[i].length c) ∧ ls[i].length ≤ c ∧ c ≤ maxLen ∧ BytesAt w a ls[i]
theorem WordsAt.below {w w' : World} {A : Option Addr} {ls : List (List UInt8)} (h : WordsAt w A ls) (hb : Below w.heap.size w w') : WordsAt w' A ls := by
  intro i hi
  obtain ⟨G, O, a, c, h1, h2, h3, h4, h5, h6⟩ := h i hi
  exact ⟨G, O, a, c, h1, Nat.lt_of_lt_of_le h2 hb.size, by rw [hb.cell h2]; exact h3, h4, h5, h6.below hb⟩

def cutW (ls : List (List UInt8)) (k : Nat) : List (List UInt8) := (ls.take k).map (List.take 4000)
def lineW (ls : List (List UInt8)) (k : Nat) : List UInt8 := W.joinQ (cutW ls k)
theorem cutW_len {ls : List (List UInt8)} {k : Nat} (h : k ≤ ls.length) : (cutW ls k).length = k := by
  unfold cutW; rw [List.length_map, List.length_take]; omega
theorem cutW_get {ls : List (List UInt8)} {k i : Nat} (h : k ≤ ls.length) (hi : i < k) (hi' : i < (cutW ls k).length) : (cutW ls k)[i] = (ls[i]'(by omega)).take 4000 := by
  have : (cutW ls k)[i]? = some ((ls[i]'(by omega)).take 4000) := by
    unfold cutW
    rw [List.getElem?_map, List.getElem?_take, if_pos hi, List.getElem?_eq_getElem (by omega)]; rfl
  rw [List.getElem?_eq_getElem hi'] at this
  exact Option.some.inj this
theorem lineW_succ {ls : List (List UInt8)} {k : Nat} (h : k < ls.length) : lineW ls (k + 1) = lineW ls k ++ ([32] ++ W.quote (ls[k].take 4000)) := by
  unfold lineW cutW
  rw [List.take_succ_eq_append_getElem h, List.map_append, List.map_singleton, W.joinQ_snoc]
theorem lineW_len {ls : List (List UInt8)} {k : Nat} (h : k < ls.length) (hl : (lineW ls k).length < 20000) : (lineW ls (k + 1)).length ≤ 36003 := by
  rw [lineW_succ h]
  have := W.quote_len (ls[k].take 4000)
  rw [List.length_take] at this
  simp only [List.length_append, List.length_cons, List.length_nil]
  omega
theorem strOf_append (a b : List UInt8) : strOf a ++ strOf b = strOf (a ++ b) := by
  apply ByteArray.ext
  simp [strOf, ByteArray.data_append]
theorem line_next {ls : List (List UInt8)} {k : Nat} (h : k < ls.length) {sl : ByteArray} (hs : strOf (lineW ls k) = sl) :
    sl ++ (⟨#[32]⟩ : ByteArray) ++ strOf (W.quote (ls[k].take 4000)) = strOf (lineW ls (k + 1)) := by
  subst hs
  rw [show (⟨#[32]⟩ : ByteArray) = strOf [32] from rfl, strOf_append, strOf_append, lineW_succ h, List.append_assoc]

theorem join_facts {ls : List (List UInt8)} {k : Nat} {sl cm : ByteArray} (hs : strOf (lineW ls k) = sl) (hl : (lineW ls k).length ≤ 36003) (hc : cm.size ≤ 1000) :
    wsOf (bytes (sl ++ (⟨#[9, 35]⟩ : ByteArray) ++ cm)) = cutW ls k ∧ erOf (bytes (sl ++ (⟨#[9, 35]⟩ : ByteArray) ++ cm)) = 0 ∧ (sl ++ (⟨#[9, 35]⟩ : ByteArray) ++ cm).size ≤ maxLen := by
  have hb : bytes (sl ++ (⟨#[9, 35]⟩ : ByteArray) ++ cm) = lineW ls k ++ ([9, 35] ++ bytes cm) := by
    subst hs
    unfold bytes
    rw [ByteArray.data_append, ByteArray.data_append]
    simp [strOf]
  have hlen : (bytes (sl ++ (⟨#[9, 35]⟩ : ByteArray) ++ cm)).length ≤ 37005 := by
    rw [hb]
    simp only [List.length_append, List.length_cons, List.length_nil, bytes_len]
    omega
  have h2 : ¬ 65536 < (bytes (sl ++ (⟨#[9, 35]⟩ : ByteArray) ++ cm)).length := by omega
  have hw : W.wordsOf (bytes (sl ++ (⟨#[9, 35]⟩ : ByteArray) ++ cm)) = some (cutW ls k) := by
    rw [hb]; exact W.words_join _ _
  refine ⟨?_, ?_, ?_⟩
  · unfold wsOf; rw [if_neg h2, hw]; rfl
  · unfold erOf; rw [if_neg h2, hw]; rfl
  · rw [← bytes_len]; unfold maxLen; omega

theorem own_cell' {w : World} {B n : Nat} {xs : List (List UInt8)} {a : Option Addr} {c : Nat} (h : Own w B 9 (.slice a n c) n (scells xs)) {k : Nat} (hk : k < xs.length) :
    ∃ g, a = some ⟨g, 0, none⟩ ∧ w.cell? ⟨g, k, none⟩ = some (.string (strOf xs[k])) := by
  have hn : n = xs.length := by have := h.len; rw [scells_length] at this; exact this.symm
  subst hn
  exact own_cell h hk

theorem bytes_new (w : World) (x : UInt8) (fr : Nat × Nat) (o : Obj) (ho : o = .cells #[.int .u8 x.toNat] 5 fr) : BytesAt (w.alloc o) (some ⟨w.heap.size, 0, none⟩) [x] := by
  subst ho
  intro i hi
  have hi0 : i = 0 := by simpa using hi
  subst hi0
  exact ⟨_, _, rfl, by rw [size_alloc]; omega, cell_whole (heap_alloc_new w _) 0⟩

theorem quote_x : strOf (W.quote [120]) = ⟨#[34, 120, 34]⟩ := rfl

set_option maxRecDepth 100000 in
set_option maxHeartbeats 2000000 in
theorem shellJoins_walk (ls : List (List UInt8)) (A : Option Addr) (C : Nat) (cm : ByteArray) (w : World) (hT : Lib.Utf8Tabs 0 1 w) (h : WordsAt w A ls) (hlen : ls.length ≤ maxLen) (hcm : cm.size ≤ maxLen) :
    Calls Tryd.prog 6 #[.slice A ls.length C, .string cm] w fun e w' => e = .returned (.bool true) ∧ Below w.heap.size w w' := by
  have HT := Lib.hid hT
  have H := Lib.hid h
  clear hT h
  unfold maxLen at hlen hcm
  go_enter Tryd.func6, Tryd.ntmps6
  go_wp2
  go_loopw [5, 6, 7] (fun v5 v6 v7 wr => ∃ k : Nat, k ≤ ls.length ∧ v7 = .int .i64 k ∧ v6 = .int .i64 k ∧ v5 = .string (strOf (lineW ls k)) ∧ (lineW ls k).length ≤ 36003 ∧ Below w.heap.size w wr) (fun _ _ v7 _ => ls.length - (intOf v7).toNat)
  case atStart => exact ⟨0, by omega, rfl, rfl, rfl, by show ([] : List UInt8).length ≤ 36003; decide, Below.refl _ _⟩
  case round =>
    obtain ⟨k, hk, rfl, rfl, rfl, hll, hbw⟩ := hrel
    have HW := Lib.hid hbw
    have HLL := Lib.hid hll
    have hsz : (strOf (lineW ls k)).size = (lineW ls k).length := strOf_size _
    clear hbw hll
    generalize hsl : strOf (lineW ls k) = sl at *
    have HSL := Lib.hid hsl
    have HSZ := Lib.hid hsz
    clear hsl hsz
    by_cases hgo : k < ls.length ∧ sl.size < 20000
    · obtain ⟨hlt, hsm⟩ := hgo
      obtain ⟨G, O, a, c, rfl, hG, hcell, hlc, hmax, hB⟩ := (H.out.below HW.out) k hlt
      have HB := Lib.hid hB
      have HN := Lib.hid (line_next hlt HSL.out)
      have HNL := Lib.hid (lineW_len hlt (by rw [← HSZ.out]; exact hsm))
      unfold maxLen at hmax
      clear hB
      generalize hx : ls[k] = x at *
      have HX := Lib.hid hx
      clear hx
      by_cases hlong : 4000 < x.length
      · have hxl : (x.take 4000).length = 4000 := by rw [List.length_take]; omega
        obtain ⟨g0, off0, rfl, _, _⟩ := HB.out 0 (by omega)
        have hqa := quote_walk (x.take 4000) (some ⟨g0, off0, none⟩) c wr (HB.out.take 4000) (by omega)
        rw [hxl] at hqa
        have HQA := Lib.hid hqa
        clear hqa hxl
        have hsq : (strOf (W.quote (x.take 4000))).size ≤ 16002 := by
          have := W.quote_len (x.take 4000)
          rw [List.length_take] at this
          rw [strOf_size]; omega
        generalize strOf (W.quote (x.take 4000)) = sq at *
        go_wp2_with fail
        refine HQA.out.mono ?_
        rintro e w1 ⟨rfl, hb1⟩
        have HB1 := Lib.hid (HW.out.trans (hb1.mono HW.out.size))
        clear hb1
        go_wp2
        go_roundw
        case rel => exact ⟨k + 1, by omega, by go_num, by go_num, congrArg Value.string HN.out, HNL.out, HB1.out⟩
        case measure => simp [intOf]; omega
      · have hxl : x.take 4000 = x := List.take_of_length_le (by omega)
        have hqa := quote_walk x a c wr HB.out (by omega)
        rw [hxl] at HN
        have HQA := Lib.hid hqa
        clear hqa hxl
        have hsq : (strOf (W.quote x)).size ≤ 16002 := by
          have := W.quote_len x
          rw [strOf_size]; omega
        generalize strOf (W.quote x) = sq at *
        go_wp2_with fail
        refine HQA.out.mono ?_
        rintro e w1 ⟨rfl, hb1⟩
        have HB1 := Lib.hid (HW.out.trans (hb1.mono HW.out.size))
        clear hb1
        go_wp2
        go_roundw
        case rel => exact ⟨k + 1, by omega, by go_num, by go_num, congrArg Value.string HN.out, HNL.out, HB1.out⟩
        case measure => simp [intOf]; omega
    · have hgo' : ¬ k < ls.length ∨ (k < ls.length ∧ ¬ sl.size < 20000) := by omega
      clear hgo
      rcases hgo' with hg | ⟨hg1, hg2⟩
      · by_cases hcl : 1000 < cm.size
        · have hcs : (cm.extract 0 1000).size ≤ 1000 := by rw [words_bytes_len cm 0 1000 (by omega) (by omega)]; omega
          have HJ := Lib.hid (join_facts HSL.out HLL.out hcs)
          have hslz : sl.size ≤ 36003 := by rw [HSZ.out]; exact HLL.out
          have hwl := cutW_len hk
          have hww := words_walk (sl ++ (⟨#[9, 35]⟩ : ByteArray) ++ (cm.extract 0 1000)) wr (Utf8Tabs_below HT.out HW.out) HJ.out.2.2
          unfold WPost at hww
          rw [HJ.out.1, HJ.out.2.1, hwl] at hww
          have HWW := Lib.hid hww
          have HWL := Lib.hid hwl
          clear hww hwl
          go_wp2_with fail
          refine HWW.out.mono ?_
          rintro e w3 ⟨v3, rfl, ho3, hb3⟩
          obtain ⟨a3, c3, rfl⟩ := ho3.form
          have HO3 := Lib.hid ho3
          have HB3 := Lib.hid (HW.out.trans (hb3.mono HW.out.size))
          clear ho3 hb3 HWW
          go_wp2
          go_loopw [11] (fun v11 wr => ∃ i : Nat, i ≤ k ∧ v11 = .int .i64 i ∧ Below w3.heap.size w3 wr) (fun v11 _ => k - (intOf v11).toNat)
          case atStart => exact ⟨0, by omega, rfl, Below.refl _ _⟩
          case round =>
            obtain ⟨i, hik, rfl, hv⟩ := hrel
            have HV := Lib.hid hv
            have HVW := Lib.hid (HB3.out.trans (hv.mono HB3.out.size))
            clear hv
            by_cases hlt : i < k
            · obtain ⟨G, O, a, c, rfl, hG, hcell, hlc, hmax, hB⟩ := (H.out.below HVW.out) i (by omega)
              obtain ⟨g3, rfl, hc3⟩ := own_cell' (own_kept HO3.out HV.out) (show i < (cutW ls k).length by rw [HWL.out]; exact hlt)
              rw [cutW_get hk hlt] at hc3
              have hcs3 := Lib.hid hc3
              have HB := Lib.hid hB
              unfold maxLen at hmax
              clear hB hc3
              generalize hx : ls[i] = x at *
              clear hx
              by_cases hlong : 4000 < x.length
              · have HBX := HB.out.take 4000
                obtain ⟨g0, off0, rfl, _, _⟩ := HB.out 0 (by omega)
                have hcv : (convert 33 9 (.slice (some ⟨g0, off0, none⟩) 4000 c)).run Tryd.prog wr.drew = .ok (.string (strOf (x.take 4000))) wr.drew := by
                  have := bytes_conv (w := wr.drew) (a := (some ⟨g0, off0, none⟩)) (l := (x.take 4000)) (HBX.below (Below.refl _ _).drew) c
                  first | exact this | (rw [List.length_take, show min 4000 x.length = 4000 by omega] at this; exact this)
                have hcs3' : wr.cell? ⟨g3, i, none⟩ = some (.string (strOf (x.take 4000))) := hcs3.out
                clear HBX hcs3
                generalize strOf (x.take 4000) = sv at *
                go_wp2
                refine wp_canon (by kernel_rfl) (by kernel_rfl) ?_
                go_wp2
                refine ⟨rfl, ?_⟩
                go_wp2
                go_roundw
                case rel => exact ⟨i + 1, by omega, by go_num, HV.out.drew⟩
                case measure => simp [intOf]; omega
              · have hxl : x.take 4000 = x := List.take_of_length_le (by omega)
                have hcx : wr.cell? ⟨g3, i, none⟩ = some (.string (strOf x)) := by rw [hcs3.out, hxl]
                have HBX := HB.out
                have hcv : (convert 33 9 (.slice a x.length c)).run Tryd.prog wr.drew = .ok (.string (strOf x)) wr.drew := by
                  have := bytes_conv (w := wr.drew) (a := a) (l := x) (HBX.below (Below.refl _ _).drew) c
                  exact this
                have hcs3' : wr.cell? ⟨g3, i, none⟩ = some (.string (strOf x)) := hcx
                clear HBX hcs3 hcx hxl
                generalize strOf x = sv at *
                go_wp2
                refine wp_canon (by kernel_rfl) (by kernel_rfl) ?_
                go_wp2
                refine ⟨rfl, ?_⟩
                go_wp2
                go_roundw
                case rel => exact ⟨i + 1, by omega, by go_num, HV.out.drew⟩
                case measure => simp [intOf]; omega
            · have kc := fun (w : World) (C : Array Value) (n c : Nat) => Lib.run_convert_bytes_const (P := Tryd.prog) w 33 5 C n c Tryd.underlying33 Tryd.underlying5
              go_wp2_with fail
              have hqx := quote_walk [120] (some ⟨wr.heap.size, 0, none⟩) 1 (wr.alloc (.cells #[.int .u8 120] 5 (1, 2))) (bytes_new wr 120 (1, 2) _ rfl) (by decide)
              rw [quote_x] at hqx
              refine hqx.mono ?_
              rintro e w5 ⟨rfl, hb5⟩
              have HB5 := Lib.hid ((HVW.out.alloc HVW.out.size _).trans (hb5.mono (le_alloc HVW.out.size _)))
              clear hb5 hqx
              go_wp2
              go_ret
              exact ⟨rfl, HB5.out⟩
        · have hcs : cm.size ≤ 1000 := by omega
          have HJ := Lib.hid (join_facts HSL.out HLL.out hcs)
          have hslz : sl.size ≤ 36003 := by rw [HSZ.out]; exact HLL.out
          have hwl := cutW_len hk
          have hww := words_walk (sl ++ (⟨#[9, 35]⟩ : ByteArray) ++ cm) wr (Utf8Tabs_below HT.out HW.out) HJ.out.2.2
          unfold WPost at hww
          rw [HJ.out.1, HJ.out.2.1, hwl] at hww
          have HWW := Lib.hid hww
          have HWL := Lib.hid hwl
          clear hww hwl
          go_wp2_with fail
          refine HWW.out.mono ?_
          rintro e w3 ⟨v3, rfl, ho3, hb3⟩
          obtain ⟨a3, c3, rfl⟩ := ho3.form
          have HO3 := Lib.hid ho3
          have HB3 := Lib.hid (HW.out.trans (hb3.mono HW.out.size))
          clear ho3 hb3 HWW
          go_wp2
          go_loopw [11] (fun v11 wr => ∃ i : Nat, i ≤ k ∧ v11 = .int .i64 i ∧ Below w3.heap.size w3 wr) (fun v11 _ => k - (intOf v11).toNat)
          case atStart => exact ⟨0, by omega, rfl, Below.refl _ _⟩
          case round =>
            obtain ⟨i, hik, rfl, hv⟩ := hrel
            have HV := Lib.hid hv
            have HVW := Lib.hid (HB3.out.trans (hv.mono HB3.out.size))
            clear hv
            by_cases hlt : i < k
            · obtain ⟨G, O, a, c, rfl, hG, hcell, hlc, hmax, hB⟩ := (H.out.below HVW.out) i (by omega)
              obtain ⟨g3, rfl, hc3⟩ := own_cell' (own_kept HO3.out HV.out) (show i < (cutW ls k).length by rw [HWL.out]; exact hlt)
              rw [cutW_get hk hlt] at hc3
              have hcs3 := Lib.hid hc3
              have HB := Lib.hid hB
              unfold maxLen at hmax
              clear hB hc3
              generalize hx : ls[i] = x at *
              clear hx
              by_cases hlong : 4000 < x.length
              · have HBX := HB.out.take 4000
                obtain ⟨g0, off0, rfl, _, _⟩ := HB.out 0 (by omega)
                have hcv : (convert 33 9 (.slice (some ⟨g0, off0, none⟩) 4000 c)).run Tryd.prog wr.drew = .ok (.string (strOf (x.take 4000))) wr.drew := by
                  have := bytes_conv (w := wr.drew) (a := (some ⟨g0, off0, none⟩)) (l := (x.take 4000)) (HBX.below (Below.refl _ _).drew) c
                  first | exact this | (rw [List.length_take, show min 4000 x.length = 4000 by omega] at this; exact this)
                have hcs3' : wr.cell? ⟨g3, i, none⟩ = some (.string (strOf (x.take 4000))) := hcs3.out
                clear HBX hcs3
                generalize strOf (x.take 4000) = sv at *
                go_wp2
                refine wp_canon (by kernel_rfl) (by kernel_rfl) ?_
                go_wp2
                refine ⟨rfl, ?_⟩
                go_wp2
                go_roundw
                case rel => exact ⟨i + 1, by omega, by go_num, HV.out.drew⟩
                case measure => simp [intOf]; omega
              · have hxl : x.take 4000 = x := List.take_of_length_le (by omega)
                have hcx : wr.cell? ⟨g3, i, none⟩ = some (.string (strOf x)) := by rw [hcs3.out, hxl]
                have HBX := HB.out
                have hcv : (convert 33 9 (.slice a x.length c)).run Tryd.prog wr.drew = .ok (.string (strOf x)) wr.drew := by
                  have := bytes_conv (w := wr.drew) (a := a) (l := x) (HBX.below (Below.refl _ _).drew) c
                  exact this
                have hcs3' : wr.cell? ⟨g3, i, none⟩ = some (.string (strOf x)) := hcx
                clear HBX hcs3 hcx hxl
                generalize strOf x = sv at *
                go_wp2
                refine wp_canon (by kernel_rfl) (by kernel_rfl) ?_
                go_wp2
                refine ⟨rfl, ?_⟩
                go_wp2
                go_roundw
                case rel => exact ⟨i + 1, by omega, by go_num, HV.out.drew⟩
                case measure => simp [intOf]; omega
            · have kc := fun (w : World) (C : Array Value) (n c : Nat) => Lib.run_convert_bytes_const (P := Tryd.prog) w 33 5 C n c Tryd.underlying33 Tryd.underlying5
              go_wp2_with fail
              have hqx := quote_walk [120] (some ⟨wr.heap.size, 0, none⟩) 1 (wr.alloc (.cells #[.int .u8 120] 5 (1, 2))) (bytes_new wr 120 (1, 2) _ rfl) (by decide)
              rw [quote_x] at hqx
              refine hqx.mono ?_
              rintro e w5 ⟨rfl, hb5⟩
              have HB5 := Lib.hid ((HVW.out.alloc HVW.out.size _).trans (hb5.mono (le_alloc HVW.out.size _)))
              clear hb5 hqx
              go_wp2
              go_ret
              exact ⟨rfl, HB5.out⟩
      · by_cases hcl : 1000 < cm.size
        · have hcs : (cm.extract 0 1000).size ≤ 1000 := by rw [words_bytes_len cm 0 1000 (by omega) (by omega)]; omega
          have HJ := Lib.hid (join_facts HSL.out HLL.out hcs)
          have hslz : sl.size ≤ 36003 := by rw [HSZ.out]; exact HLL.out
          have hwl := cutW_len hk
          have hww := words_walk (sl ++ (⟨#[9, 35]⟩ : ByteArray) ++ (cm.extract 0 1000)) wr (Utf8Tabs_below HT.out HW.out) HJ.out.2.2
          unfold WPost at hww
          rw [HJ.out.1, HJ.out.2.1, hwl] at hww
          have HWW := Lib.hid hww
          have HWL := Lib.hid hwl
          clear hww hwl
          go_wp2_with fail
          refine HWW.out.mono ?_
          rintro e w3 ⟨v3, rfl, ho3, hb3⟩
          obtain ⟨a3, c3, rfl⟩ := ho3.form
          have HO3 := Lib.hid ho3
          have HB3 := Lib.hid (HW.out.trans (hb3.mono HW.out.size))
          clear ho3 hb3 HWW
          go_wp2
          go_loopw [11] (fun v11 wr => ∃ i : Nat, i ≤ k ∧ v11 = .int .i64 i ∧ Below w3.heap.size w3 wr) (fun v11 _ => k - (intOf v11).toNat)
          case atStart => exact ⟨0, by omega, rfl, Below.refl _ _⟩
          case round =>
            obtain ⟨i, hik, rfl, hv⟩ := hrel
            have HV := Lib.hid hv
            have HVW := Lib.hid (HB3.out.trans (hv.mono HB3.out.size))
            clear hv
            by_cases hlt : i < k
            · obtain ⟨G, O, a, c, rfl, hG, hcell, hlc, hmax, hB⟩ := (H.out.below HVW.out) i (by omega)
              obtain ⟨g3, rfl, hc3⟩ := own_cell' (own_kept HO3.out HV.out) (show i < (cutW ls k).length by rw [HWL.out]; exact hlt)
              rw [cutW_get hk hlt] at hc3
              have hcs3 := Lib.hid hc3
              have HB := Lib.hid hB
              unfold maxLen at hmax
              clear hB hc3
              generalize hx : ls[i] = x at *
              clear hx
              by_cases hlong : 4000 < x.length
              · have HBX := HB.out.take 4000
                obtain ⟨g0, off0, rfl, _, _⟩ := HB.out 0 (by omega)
                have hcv : (convert 33 9 (.slice (some ⟨g0, off0, none⟩) 4000 c)).run Tryd.prog wr.drew = .ok (.string (strOf (x.take 4000))) wr.drew := by
                  have := bytes_conv (w := wr.drew) (a := (some ⟨g0, off0, none⟩)) (l := (x.take 4000)) (HBX.below (Below.refl _ _).drew) c
                  first | exact this | (rw [List.length_take, show min 4000 x.length = 4000 by omega] at this; exact this)
                have hcs3' : wr.cell? ⟨g3, i, none⟩ = some (.string (strOf (x.take 4000))) := hcs3.out
                clear HBX hcs3
                generalize strOf (x.take 4000) = sv at *
                go_wp2
                refine wp_canon (by kernel_rfl) (by kernel_rfl) ?_
                go_wp2
                refine ⟨rfl, ?_⟩
                go_wp2
                go_roundw
                case rel => exact ⟨i + 1, by omega, by go_num, HV.out.drew⟩
                case measure => simp [intOf]; omega
              · have hxl : x.take 4000 = x := List.take_of_length_le (by omega)
                have hcx : wr.cell? ⟨g3, i, none⟩ = some (.string (strOf x)) := by rw [hcs3.out, hxl]
                have HBX := HB.out
                have hcv : (convert 33 9 (.slice a x.length c)).run Tryd.prog wr.drew = .ok (.string (strOf x)) wr.drew := by
                  have := bytes_conv (w := wr.drew) (a := a) (l := x) (HBX.below (Below.refl _ _).drew) c
                  exact this
                have hcs3' : wr.cell? ⟨g3, i, none⟩ = some (.string (strOf x)) := hcx
                clear HBX hcs3 hcx hxl
                generalize strOf x = sv at *
                go_wp2
                refine wp_canon (by kernel_rfl) (by kernel_rfl) ?_
                go_wp2
                refine ⟨rfl, ?_⟩
                go_wp2
                go_roundw
                case rel => exact ⟨i + 1, by omega, by go_num, HV.out.drew⟩
                case measure => simp [intOf]; omega
            · have kc := fun (w : World) (C : Array Value) (n c : Nat) => Lib.run_convert_bytes_const (P := Tryd.prog) w 33 5 C n c Tryd.underlying33 Tryd.underlying5
              go_wp2_with fail
              have hqx := quote_walk [120] (some ⟨wr.heap.size, 0, none⟩) 1 (wr.alloc (.cells #[.int .u8 120] 5 (1, 2))) (bytes_new wr 120 (1, 2) _ rfl) (by decide)
              rw [quote_x] at hqx
              refine hqx.mono ?_
              rintro e w5 ⟨rfl, hb5⟩
              have HB5 := Lib.hid ((HVW.out.alloc HVW.out.size _).trans (hb5.mono (le_alloc HVW.out.size _)))
              clear hb5 hqx
              go_wp2
              go_ret
              exact ⟨rfl, HB5.out⟩
        · have hcs : cm.size ≤ 1000 := by omega
          have HJ := Lib.hid (join_facts HSL.out HLL.out hcs)
          have hslz : sl.size ≤ 36003 := by rw [HSZ.out]; exact HLL.out
          have hwl := cutW_len hk
          have hww := words_walk (sl ++ (⟨#[9, 35]⟩ : ByteArray) ++ cm) wr (Utf8Tabs_below HT.out HW.out) HJ.out.2.2
          unfold WPost at hww
          rw [HJ.out.1, HJ.out.2.1, hwl] at hww
          have HWW := Lib.hid hww
          have HWL := Lib.hid hwl
          clear hww hwl
          go_wp2_with fail
          refine HWW.out.mono ?_
          rintro e w3 ⟨v3, rfl, ho3, hb3⟩
          obtain ⟨a3, c3, rfl⟩ := ho3.form
          have HO3 := Lib.hid ho3
          have HB3 := Lib.hid (HW.out.trans (hb3.mono HW.out.size))
          clear ho3 hb3 HWW
          go_wp2
          go_loopw [11] (fun v11 wr => ∃ i : Nat, i ≤ k ∧ v11 = .int .i64 i ∧ Below w3.heap.size w3 wr) (fun v11 _ => k - (intOf v11).toNat)
          case atStart => exact ⟨0, by omega, rfl, Below.refl _ _⟩
          case round =>
            obtain ⟨i, hik, rfl, hv⟩ := hrel
            have HV := Lib.hid hv
            have HVW := Lib.hid (HB3.out.trans (hv.mono HB3.out.size))
            clear hv
            by_cases hlt : i < k
            · obtain ⟨G, O, a, c, rfl, hG, hcell, hlc, hmax, hB⟩ := (H.out.below HVW.out) i (by omega)
              obtain ⟨g3, rfl, hc3⟩ := own_cell' (own_kept HO3.out HV.out) (show i < (cutW ls k).length by rw [HWL.out]; exact hlt)
              rw [cutW_get hk hlt] at hc3
              have hcs3 := Lib.hid hc3
              have HB := Lib.hid hB
              unfold maxLen at hmax
              clear hB hc3
              generalize hx : ls[i] = x at *
              clear hx
              by_cases hlong : 4000 < x.length
              · have HBX := HB.out.take 4000
                obtain ⟨g0, off0, rfl, _, _⟩ := HB.out 0 (by omega)
                have hcv : (convert 33 9 (.slice (some ⟨g0, off0, none⟩) 4000 c)).run Tryd.prog wr.drew = .ok (.string (strOf (x.take 4000))) wr.drew := by
                  have := bytes_conv (w := wr.drew) (a := (some ⟨g0, off0, none⟩)) (l := (x.take 4000)) (HBX.below (Below.refl _ _).drew) c
                  first | exact this | (rw [List.length_take, show min 4000 x.length = 4000 by omega] at this; exact this)
                have hcs3' : wr.cell? ⟨g3, i, none⟩ = some (.string (strOf (x.take 4000))) := hcs3.out
                clear HBX hcs3
                generalize strOf (x.take 4000) = sv at *
                go_wp2
                refine wp_canon (by kernel_rfl) (by kernel_rfl) ?_
                go_wp2
                refine ⟨rfl, ?_⟩
                go_wp2
                go_roundw
                case rel => exact ⟨i + 1, by omega, by go_num, HV.out.drew⟩
                case measure => simp [intOf]; omega
              · have hxl : x.take 4000 = x := List.take_of_length_le (by omega)
                have hcx : wr.cell? ⟨g3, i, none⟩ = some (.string (strOf x)) := by rw [hcs3.out, hxl]
                have HBX := HB.out
                have hcv : (convert 33 9 (.slice a x.length c)).run Tryd.prog wr.drew = .ok (.string (strOf x)) wr.drew := by
                  have := bytes_conv (w := wr.drew) (a := a) (l := x) (HBX.below (Below.refl _ _).drew) c
                  exact this
                have hcs3' : wr.cell? ⟨g3, i, none⟩ = some (.string (strOf x)) := hcx
                clear HBX hcs3 hcx hxl
                generalize strOf x = sv at *
                go_wp2
                refine wp_canon (by kernel_rfl) (by kernel_rfl) ?_
                go_wp2
                refine ⟨rfl, ?_⟩
                go_wp2
                go_roundw
                case rel => exact ⟨i + 1, by omega, by go_num, HV.out.drew⟩
                case measure => simp [intOf]; omega
            · have kc := fun (w : World) (C : Array Value) (n c : Nat) => Lib.run_convert_bytes_const (P := Tryd.prog) w 33 5 C n c Tryd.underlying33 Tryd.underlying5
              go_wp2_with fail
              have hqx := quote_walk [120] (some ⟨wr.heap.size, 0, none⟩) 1 (wr.alloc (.cells #[.int .u8 120] 5 (1, 2))) (bytes_new wr 120 (1, 2) _ rfl) (by decide)
              rw [quote_x] at hqx
              refine hqx.mono ?_
              rintro e w5 ⟨rfl, hb5⟩
              have HB5 := Lib.hid ((HVW.out.alloc HVW.out.size _).trans (hb5.mono (le_alloc HVW.out.size _)))
              clear hb5 hqx
              go_wp2
              go_ret
              exact ⟨rfl, HB5.out⟩
end Go.Proofs.YtheflheeaiopfaaDoor
