/- ShellQuotes: the law's function, walked. -/
import Derived.Test.YtheflheeaiopfaaDoorShLaw
import Derived.Test.YtheflheeaiopfaaDoorRefQuote
import Derived.Test.YtheflheeaiopfaaDoorQPlain
namespace Go.Proofs.YtheflheeaiopfaaDoor
open Go.RowKit Vl
set_option linter.unusedVariables false

theorem bytes_conv {w : World} {a : Option Addr} {l : List UInt8} (h : BytesAt w a l) (c : Nat) : (convert 33 9 (.slice a l.length c)).run Tryd.prog w = .ok (.string (strOf l)) w := by
  cases a with
  | none =>
    have hl : l = [] := by
      cases l with
      | nil => rfl
      | cons x l => obtain ⟨g, off, h1, _⟩ := h 0 (by simp); cases h1
    subst hl
    rw [run_convert_bytes_nil w 33 5 Tryd.underlying33 Tryd.underlying5 _ c 9 Tryd.underlying9]
    rfl
  | some ad =>
    have hload : (loadCells ad l.length).run Tryd.prog w = .ok ((l.map fun x => ((x.toNat : Nat) : Int)).map (Value.int .u8)).toArray w := by
      have := run_loadCells_list (P := Tryd.prog) w ad ((l.map fun x => ((x.toNat : Nat) : Int)).map (Value.int .u8)) (fun j v hj => by
        have hjl : j < l.length := by
          rcases Nat.lt_or_ge j l.length with h | h
          · exact h
          · simp [List.getElem?_eq_none (show l.length ≤ j by simpa using h)] at hj
        obtain ⟨g, off, e, _, hc⟩ := h j hjl
        cases e
        have hplain : (⟨g, off, none⟩ : Addr).add j = ⟨g, off + j, none⟩ := by unfold Addr.add; split <;> simp_all
        rw [hplain, hc]
        simp [List.getElem?_eq_getElem hjl] at hj
        rw [← hj])
      simpa using this
    rw [run_convert_bytes_string w 33 9 5 _ l.length c Tryd.underlying33 Tryd.underlying5 Tryd.underlying9, run_bytesToString w _ l.length c _ hload, foldl_push_bytes]
    congr 2
    unfold strOf
    simp [ByteArray.empty, ByteArray.emptyWithCapacity]
    show [] ++ _ = l
    rw [List.nil_append]
    conv => rhs; rw [← List.map_id l]
    apply List.map_congr_left
    intro x _
    simp

theorem quote_facts (l : List UInt8) (hl : l.length ≤ 16000) : wsOf (W.quote l) = [l] ∧ erOf (W.quote l) = 0 ∧ (W.quote l).length ≤ 64002 := by
  have h1 := W.quote_len l
  have h2 : ¬ 65536 < (W.quote l).length := by omega
  refine ⟨?_, ?_, by omega⟩
  · unfold wsOf; rw [if_neg h2, W.words_quote]; rfl
  · unfold erOf; rw [if_neg h2, W.words_quote]; rfl

theorem BytesAt.take {w : World} {a : Option Addr} {l : List UInt8} (h : BytesAt w a l) (n : Nat) : BytesAt w a (l.take n) := by
  intro i hi
  have hi' : i < l.length := by rw [List.length_take] at hi; omega
  obtain ⟨g, off, h1, h2, h3⟩ := h i hi'
  exact ⟨g, off, h1, h2, by rw [List.getElem_take]; exact h3⟩

set_option maxRecDepth 100000 in
set_option maxHeartbeats 1000000 in
theorem shellQuotes_walk (l : List UInt8) (a : Option Addr) (c : Nat) (w : World) (hT : Lib.Utf8Tabs 0 1 w) (h : BytesAt w a l) (hlc : l.length ≤ c) (hmax : c ≤ maxLen) :
    Calls Tryd.prog 5 #[.slice a l.length c] w fun e w' => e = .returned (.bool true) ∧ Below w.heap.size w w' := by
  have HT := Lib.hid hT
  have H := Lib.hid h
  clear hT h
  unfold maxLen at hmax
  by_cases hlong : 16000 < l.length
  · have hlt : (l.take 16000).length = 16000 := by rw [List.length_take]; omega
    have HA := Lib.hid (H.out.take 16000)
    have hl6 : (l.take 16000).length ≤ 16000 := by omega
    obtain ⟨q1, q2, q3⟩ := quote_facts (l.take 16000) hl6
    have hb : bytes (strOf (W.quote (l.take 16000))) = W.quote (l.take 16000) := rfl
    have hsz : (strOf (W.quote (l.take 16000))).size ≤ maxLen := by rw [strOf_size]; unfold maxLen; omega
    have HQ := Lib.hid (And.intro q1 (And.intro q2 (And.intro hb hsz)))
    clear q1 q2 q3 hb hsz
    obtain ⟨g0, off0, rfl, _, _⟩ := H.out 0 (by omega)
    have hqa := quote_walk (l.take 16000) (some ⟨g0, off0, none⟩) c w HA.out (by omega)
    have hra := fun w1 (hb : Below w.heap.size w w1) => refQuote_walk (l.take 16000) (some ⟨g0, off0, none⟩) c w1 (HA.out.below hb) (by omega)
    rw [hlt] at hqa hra
    have HQA := Lib.hid hqa
    have HRA := Lib.hid hra
    clear hqa hra hlt
    go_enter Tryd.func5, Tryd.ntmps5
    go_wp2_with fail
    refine HQA.out.mono ?_
    rintro e w1 ⟨rfl, hb1⟩
    have HB1 := Lib.hid hb1
    clear hb1
    go_wp2_with fail
    refine (HRA.out w1 HB1.out).mono ?_
    rintro e w2 ⟨rfl, hb2⟩
    have HB2 := Lib.hid (HB1.out.trans (hb2.mono HB1.out.size))
    clear hb2
    have hww := words_walk (strOf (W.quote (l.take 16000))) w2 (Utf8Tabs_below HT.out HB2.out) HQ.out.2.2.2
    have HWW := Lib.hid hww
    clear hww
    go_wp2_with fail
    refine HWW.out.mono ?_
    rintro e w3 ⟨v3, rfl, ho3, hb3⟩
    rw [HQ.out.2.2.1, HQ.out.1] at ho3
    rw [HQ.out.2.2.1, HQ.out.2.1]
    obtain ⟨a3, c3, rfl⟩ := ho3.form
    obtain ⟨g3, rfl, hc3⟩ := own_cell (xs := [(l.take 16000)]) ho3 (k := 0) (by simp)
    have hc3' : w3.cell? ⟨g3, 0, none⟩ = some (.string (strOf (l.take 16000))) := hc3
    have HB3 := Lib.hid (HB2.out.trans (hb3.mono HB2.out.size))
    have hcv : True := trivial
    have hcv2 : (convert 33 9 (.slice (some ⟨g0, off0, none⟩) 16000 c)).run Tryd.prog w3.drew = .ok (.string (strOf (l.take 16000))) w3.drew := by
      have := bytes_conv (w := w3.drew) (a := some ⟨g0, off0, none⟩) (l := (l.take 16000)) (HA.out.below HB3.out.drew) c
      rw [List.length_take, show min 16000 l.length = 16000 by omega] at this
      exact this
    clear hc3 ho3 hb3 hcv HWW
    have HL := Lib.hid hl6
    clear hl6
    generalize hsv : strOf (l.take 16000) = sv at *
    go_wp2
    refine wp_canon (by kernel_rfl) (by kernel_rfl) ?_
    go_wp2
    refine ⟨rfl, ?_⟩
    go_wp2
    go_ret
    exact ⟨rfl, HB3.out.drew⟩
  · have HA := Lib.hid (H.out)
    have hl6 : l.length ≤ 16000 := by omega
    obtain ⟨q1, q2, q3⟩ := quote_facts l hl6
    have hb : bytes (strOf (W.quote l)) = W.quote l := rfl
    have hsz : (strOf (W.quote l)).size ≤ maxLen := by rw [strOf_size]; unfold maxLen; omega
    have HQ := Lib.hid (And.intro q1 (And.intro q2 (And.intro hb hsz)))
    clear q1 q2 q3 hb hsz
    go_enter Tryd.func5, Tryd.ntmps5
    go_wp2_with fail
    refine (quote_walk l a c w HA.out (by omega)).mono ?_
    rintro e w1 ⟨rfl, hb1⟩
    have HB1 := Lib.hid hb1
    clear hb1
    go_wp2_with fail
    refine (refQuote_walk l a c w1 (HA.out.below HB1.out) (by omega)).mono ?_
    rintro e w2 ⟨rfl, hb2⟩
    have HB2 := Lib.hid (HB1.out.trans (hb2.mono HB1.out.size))
    clear hb2
    have hww := words_walk (strOf (W.quote l)) w2 (Utf8Tabs_below HT.out HB2.out) HQ.out.2.2.2
    have HWW := Lib.hid hww
    clear hww
    go_wp2_with fail
    refine HWW.out.mono ?_
    rintro e w3 ⟨v3, rfl, ho3, hb3⟩
    rw [HQ.out.2.2.1, HQ.out.1] at ho3
    rw [HQ.out.2.2.1, HQ.out.2.1]
    obtain ⟨a3, c3, rfl⟩ := ho3.form
    obtain ⟨g3, rfl, hc3⟩ := own_cell (xs := [l]) ho3 (k := 0) (by simp)
    have hc3' : w3.cell? ⟨g3, 0, none⟩ = some (.string (strOf l)) := hc3
    have HB3 := Lib.hid (HB2.out.trans (hb3.mono HB2.out.size))
    have hcv : True := trivial
    have hcv2 : (convert 33 9 (.slice a l.length c)).run Tryd.prog w3.drew = .ok (.string (strOf l)) w3.drew := by
      have := bytes_conv (w := w3.drew) (a := a) (l := l) (HA.out.below HB3.out.drew) c
      exact this
    clear hc3 ho3 hb3 hcv HWW
    have HL := Lib.hid hl6
    clear hl6
    generalize hsv : strOf l = sv at *
    go_wp2
    refine wp_canon (by kernel_rfl) (by kernel_rfl) ?_
    go_wp2
    refine ⟨rfl, ?_⟩
    go_wp2
    go_ret
    exact ⟨rfl, HB3.out.drew⟩
end Go.Proofs.YtheflheeaiopfaaDoor
