/- ShellJoins: the card. -/
import Derived.Test.YtheflheeaiopfaaDoorShJLaw
import Derived.Test.YtheflheeaiopfaaDoorTabs
import Derived.ChangeMaps5
import Derived.ChangeSlices
import Derived.Carry
import Derived.Deep.Slices
namespace Go.Proofs.YtheflheeaiopfaaDoor.shellJoins
open Go.ChangeShapes Go.WideShapes Go.ChangeAt Go.RowKit Go.ChangeMaps Go.Deep
set_option linter.unusedVariables false

theorem laidOut33 : laidOutB Tryd.prog = true := by kernel_rfl
theorem cells5 : Tryd.prog.cellsOf 5 = 1 := by kernel_rfl
theorem cell_lt {w : World} {a : Addr} {v : Value} (h : w.cell? a = some v) : a.block < w.heap.size := by
  rcases Nat.lt_or_ge a.block w.heap.size with h' | h'
  · exact h'
  · exfalso
    have : w.heap[a.block]? = none := Array.getElem?_eq_none h'
    unfold World.cell? at h
    rw [this] at h
    split at h <;> simp_all

/-- A slice of bytes that came in. -/
theorem bytes_open {H : Type} {enc : TypeId × Value → H} {W : World} {v : Value} {fuel : Nat} {x : DataW H × List MemPlace}
    (hf : DataW.trod enc Tryd.prog W 0 (fun _ => true) true fuel 33 [v] = some x) : ∃ (l : List UInt8) (a : Option Addr) (c : Nat), v = .slice a l.length c ∧ l.length ≤ c ∧ c ≤ maxLen ∧ BytesAt W a l := by
  rcases open_ints Tryd.underlying33 Tryd.underlying5 cells5 hf with ⟨hcs, hx⟩ | ⟨a, len, cap, zs, hcs, _, hl, hm, hz, hx, hcell, hwz⟩
  · obtain rfl : v = .slice none 0 0 := by simpa using hcs
    exact ⟨[], none, 0, rfl, Nat.le_refl _, by unfold maxLen; omega, fun i hi => by simp at hi⟩
  · obtain rfl : v = .slice (some a) len cap := by simpa using hcs
    simp only [if_true] at hz
    have hlen : ((zs.take len).map fun z => UInt8.ofNat z.toNat).length = len := by rw [List.length_map, List.length_take]; omega
    refine ⟨(zs.take len).map fun z => UInt8.ofNat z.toNat, some a, cap, by rw [hlen], by rw [hlen]; exact hl, hm, ?_⟩
    intro i hi
    rw [hlen] at hi
    have hc := hcell i (by omega)
    obtain ⟨b, off, spot⟩ := a
    have hc0 := hcell 0 (by omega)
    have hspot : spot = none := by simpa [Addr.add] using World.cell?_spot hc0
    subst hspot
    refine ⟨b, off, rfl, ?_, ?_⟩
    · have := cell_lt hc0
      simpa [Addr.add] using this
    · have hplain : (⟨b, off, none⟩ : Addr).add i = ⟨b, off + i, none⟩ := by unfold Addr.add; split <;> simp_all
      rw [hplain] at hc
      rw [hc]
      have hz' : i < zs.length := by omega
      have hg : zs.getD i 0 = zs[i] := by simp [List.getD, hz']
      have hw := hwz zs[i] (List.getElem_mem hz')
      simp only [Lit.wf, Bool.and_eq_true, decide_eq_true_eq] at hw
      have h0 : (0 : Int) ≤ zs[i] := hw.1
      have h1 : zs[i] ≤ 255 := hw.2
      rw [hg, List.getElem_map, List.getElem_take]
      congr 2
      rw [UInt8.toNat_ofNat']
      omega

theorem cells33 : Tryd.prog.cellsOf 33 = 1 := by kernel_rfl

/-- A slice of slices of bytes that came in. -/
theorem words_open {H : Type} {enc : TypeId × Value → H} {W : World} {base : Nat} {v : Value} {d : DataW H} {ps : List MemPlace} (hv : Value.okWide Tryd.prog W .any base 36 v)
    (h : DataW.Trod enc Tryd.prog W 0 (fun _ => true) true 36 v d ps) : ∃ (ls : List (List UInt8)) (A : Option Addr) (C : Nat), v = .slice A ls.length C ∧ ls.length ≤ C ∧ C ≤ maxLen ∧ WordsAt W A ls := by
  obtain ⟨a0, len, cap, rfl⟩ := okWide_slice Tryd.underlying36 hv
  obtain ⟨fuel, hf⟩ := h
  rcases open_slice1 Tryd.underlying36 cells33 hf with ⟨hcs, _⟩ | ⟨a, len', cap', m, n, V, D, Pl, hcs, _, hl, hm, hmm, _, hV⟩
  · simp [Value.cells] at hcs
    obtain ⟨rfl, rfl, rfl⟩ := hcs
    exact ⟨[], none, 0, rfl, Nat.le_refl _, by unfold maxLen; omega, fun i hi => by simp at hi⟩
  · simp [Value.cells] at hcs
    obtain ⟨rfl, rfl, rfl⟩ := hcs
    simp only [if_true] at hmm
    subst hmm
    obtain ⟨F, hF⟩ := choose_lt (n := len) (α := List UInt8) (p := fun i l => ∃ (a : Option Addr) (c : Nat), V i = .slice a l.length c ∧ l.length ≤ c ∧ c ≤ maxLen ∧ BytesAt W a l) (fun i hi => by
      obtain ⟨l, a, c, h1⟩ := bytes_open (hV i (by omega)).2
      exact ⟨l, a, c, h1⟩)
    have hlen : ((List.range len).map F).length = len := by simp
    refine ⟨(List.range len).map F, some a, m, by rw [hlen], by rw [hlen]; exact hl, hm, ?_⟩
    intro i hi
    rw [hlen] at hi
    obtain ⟨a1, c1, e1, e2, e3, e4⟩ := hF i hi
    have hc := (hV i (by omega)).1
    have hc0 := (hV 0 (by omega)).1
    obtain ⟨b, off, spot⟩ := a
    have hspot : spot = none := by simpa [Addr.add] using World.cell?_spot hc0
    subst hspot
    have hg : ((List.range len).map F)[i]'(by rw [hlen]; exact hi) = F i := by simp
    have hplain : (⟨b, off, none⟩ : Addr).add i = ⟨b, off + i, none⟩ := by unfold Addr.add; split <;> simp_all
    rw [hplain] at hc
    refine ⟨b, off, a1, c1, rfl, ?_, ?_, ?_, e3, ?_⟩
    · have := cell_lt hc0
      simpa [Addr.add] using this
    · rw [hc, e1, hg]
    · rw [hg]; exact e2
    · rw [hg]; exact e4

theorem contract (H : Type) (enc : TypeId × Value → H) (W : World) (base : Nat) (args : Array Value) (ds gs : List (DataW H)) (before : List MemPlace)
    (hval : ∀ (j : Nat) t v, Tryd.f6.params[j]? = some t → args[j]? = some v → Value.okWide Tryd.prog W .any base t v)
    (hW : DataW.Whole enc Tryd.prog Tryd.f6.params.toList Rows.shellJoinsSpec.vars false W args.toList ds gs before) (hL : laidMetH Tryd.prog Rows.shellJoinsRow.laid W) :
    Calls Tryd.prog 6 args W fun e W' => ∃ v, e = .returned v ∧ Rows.shellJoinsSpec.post enc Tryd.prog Tryd.f6 false true false false W args v W' := by
  have hW' := hW
  obtain ⟨p, q, hA0, hV, rfl, hfz, hnd⟩ := hW
  have hA : DataW.TrodAll enc Tryd.prog W 0 (fun _ => true) true Tryd.f6.params.toList args.toList ds p := hA0
  rw [Tryd.params6] at hA hval
  obtain ⟨v0, vs0, d0, ds0, p0, q0, hargs, rfl, rfl, h0, r0⟩ := trodAll_cons hA
  obtain ⟨v1, vs1, d1, ds1, p1, q1, hargs1, rfl, rfl, h1, r1⟩ := trodAll_cons r0
  obtain ⟨rfl, rfl, rfl⟩ := trodAll_nil r1
  obtain rfl : args = #[v0, v1] := by cases args; simp_all
  obtain ⟨rfl, rfl⟩ := trodVars_none hV
  obtain ⟨cm, rfl, rfl, rfl, wcm⟩ := open_string Tryd.underlying9 (hval 1 9 v1 rfl rfl) h1
  have h0k := h0
  have hlt : ∀ x ∈ p0, x.block < W.heap.size := fun x hx => by simpa using hW'.lt x (by simpa using hx)
  obtain ⟨ls, A, C, rfl, hlc, hmax, hB⟩ := words_open (hval 0 36 v0 rfl rfl) h0
  clear hA0
  simp only [List.append_nil] at hW'
  refine (shellJoins_walk ls A C cm W (tabs_of rfl hL) hB (Nat.le_trans hlc hmax) wcm).mono fun e W' ⟨he, hg⟩ => ?_
  subst he
  exact ⟨_, rfl, _, _, _, [], _, [], hW', trodAll_mk1 (shut_bool Tryd.underlying4 _), trodAll_mk2 (Below.trod laidOut33 (by kernel_rfl) (of_decide_eq_true (by kernel_rfl)) h0k hg hlt) (shut_string Tryd.underlying9 wcm), rfl, by simpa using hg.frame _, fun h => by cases h⟩

theorem reads (os : Os) {H : Type} (enc : TypeId × Value → H) : ∃ places, DataW.whole enc Tryd.prog ((laidWorld os).forCall (fun _ _ => 0) ⟨#[], #[.slice none 0 0, .string ByteArray.empty], []⟩).memory Tryd.f6.params.toList Rows.shellJoinsSpec.vars false #[Value.slice none 0 0, Value.string ByteArray.empty].toList 8 = some ([.nil, .lit (.string [])], [], places) :=
  ⟨[], by kernel_rfl⟩

set_option maxRecDepth 100000 in
theorem lifted (os : Os) (started : os.Started) (H : Type) (enc : TypeId × Value → H) (F : Stop.Interp) :
    ReturnsInHanded {} Tryd.checked os 6 .any ((OpenSpec.ofChange Rows.shellJoinsSpec).preRow enc Tryd.prog Tryd.f6 Rows.shellJoinsRow.domain false Rows.shellJoinsRow.laid) (((OpenSpec.ofChange Rows.shellJoinsSpec).at F).post enc Tryd.prog Tryd.f6 false true false false) := by
  obtain ⟨places, hx⟩ := reads os enc
  refine returnsInHanded_of_row (C := Tryd.checked) (s := OpenSpec.ofChange Rows.shellJoinsSpec) own started (by kernel_rfl) Tryd.func6
    (witness_row_at (enc := enc) (C := Tryd.checked) false (laidWorld os) #[.slice none 0 0, .string ByteArray.empty] rfl (by kernel_rfl) (by kernel_rfl) (by kernel_rfl)
      (OpenSpec.preRow_of_cond 8 hx (by kernel_rfl) (fun k hk => by cases hk) (by kernel_rfl) (laid_met os _))) ?_
  intro W base args ds gs before hval hW _ _ _ hL _ _
  exact contract H enc W base args ds gs before hval hW hL

theorem said : Rows.ShellJoinsSaid :=
  OpenClaim.holds_of_cond 6 Tryd.f6 rfl rfl rfl rfl rfl rfl rfl ⟨rfl, rfl, rfl, rfl, rfl⟩ rfl rfl rfl rfl rfl (by kernel_rfl) Tryd.func6 (by kernel_rfl)
    (of_decide_eq_true (by kernel_rfl)) (by unfold Func.isWrapper; first | (rw [if_pos (by decide +kernel)]; kernel_rfl) | (rw [if_neg (by decide +kernel)]; exact ⟨rfl, rfl⟩))
    (fun os started H enc _ F => by rw [OpenClaim.pre_eq_preRow]; exact lifted os started H enc F)

theorem plain (f : FuncId) (fn : Func) (hf : Tryd.pinned.checked.prog.funcNamed "vellum/vellumlaw16.ShellJoins" = some f) (hfn : Tryd.pinned.checked.prog.funcs[f]? = some fn) :
    false = Tryd.pinned.checked.prog.looks [] ∧ ∀ (j : Nat) t, fn.params[j]? = some t → Tryd.pinned.checked.prog.wantsStandIn t = false := by
  obtain rfl : f = 6 := Option.some.inj ((show Tryd.prog.funcNamed "vellum/vellumlaw16.ShellJoins" = some 6 by kernel_rfl).symm.trans hf) |>.symm
  obtain rfl : fn = Tryd.f6 := (Option.some.inj (Tryd.func6.symm.trans hfn)).symm
  refine ⟨by kernel_rfl, fun j t ht => ?_⟩
  rw [Tryd.params6] at ht
  have hm := Array.mem_of_getElem? ht
  rcases (show t = 36 ∨ t = 9 by simpa using hm) with rfl | rfl
  · exact (show Tryd.prog.wantsStandIn 36 = false by kernel_rfl)
  · exact (show Tryd.prog.wantsStandIn 9 = false by kernel_rfl)

/-- ████ THE CARD ████ -/
theorem proved : Rows.ShellJoinsCardSaid :=
  Claim7.holds_tied_plain_at .later [] _ _ _ _ said (fun _ h => by cases h) (by kernel_rfl) (fun _ h => by cases h) shellJoins_row_tie rfl ⟨rfl, rfl⟩ (by kernel_rfl) rfl plain (by kernel_rfl)
#print axioms proved
end Go.Proofs.YtheflheeaiopfaaDoor.shellJoins
