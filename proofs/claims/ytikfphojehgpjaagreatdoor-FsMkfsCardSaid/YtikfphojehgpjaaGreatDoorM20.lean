/- store: a transaction: Put. -/
import Derived.Test.YtikfphojehgpjaaGreatDoorM19
set_option linter.unusedSimpArgs false
set_option linter.unusedVariables false
namespace Go.Proofs.YtikfphojehgpjaaGreatDoor
open Go.RowKit Vl Go.Maps Go.ChangeMaps
set_option linter.unusedVariables false
section
variable {w w' : World} {X : TxC} {n : Nat} {m : Nat → Option (List UInt8)}
theorem TxAt.base_le (h : TxAt w X n m) : X.base ≤ w.heap.size := by obtain ⟨x, hd⟩ := h.disk; exact hd.base_le
theorem OwnMap.mono {base own : Nat} (h : OwnMap w base own n m) {n' : Nat} (hn : n ≤ n') : OwnMap w base own n' m := by
  obtain ⟨mv, h1, h2⟩ := h
  exact ⟨mv, h1.mono hn, h2⟩
theorem TxAt.mono (h : TxAt w X n m) {n' : Nat} (hn : n ≤ n') : TxAt w X n' m := { h with own := h.own.mono hn }
theorem TxAt.put (h : TxAt w X n m) (ok : TxOk X) {mv : Nat → Option Value} (hmv : ∀ b, (m b = none ∧ mv b = none) ∨ ∃ l v, m b = some l ∧ mv b = some v ∧ ElAt w X.base l v) {b : Nat} {l : List UInt8} {v : Value} (he : ElAt w X.base l v)
    (hp : PM w' X.own (n + 1) (upd mv b (some v))) (hg : w.grownBy w' (some X.own)) : TxAt w' X (n + 1) (upd m b (some l)) := by
  have hk : Kept [X.own] w w' := (Kept.refl [X.own] w).grown hg (fun k e => by injection e with e; subst e; exact .inl (by simp))
  obtain ⟨⟨x, h1⟩, h2, h3, h4, h5, h6⟩ := h
  obtain ⟨a1, a2, a3, a4⟩ := ok.nown
  have hlow := ok.low
  have hel : ∀ {l v}, ElAt w X.base l v → ElAt w' X.base l v := fun {l v} ⟨e1, e2⟩ => ⟨e1, e2.keep fun k hk' => hk.block k (e2.block hk').2.1 (by simp; have := (e2.block hk').1; omega)⟩
  refine ⟨⟨x, h1.keptN ok.pend hk (by simpa using ok.nd.2.1) (by simpa using ok.ndu.2.1) (by simpa using ok.nmp.2.1)⟩, h2.kept hk (by simpa using a3.symm), h3.kept hk (by simpa using a2.symm), h4.keep (hk.block _ h4.lt (by simpa using a4.symm)), hk.keep h5 (by simpa using a1.symm), _, hp, fun j => ?_⟩
  by_cases e : j = b
  · subst e
    exact .inr ⟨l, v, upd_same _ _ _, upd_same _ _ _, hel he⟩
  · rw [upd_other _ _ e, upd_other _ _ e]
    rcases hmv j with h7 | ⟨l', v', h7, h8, h9⟩
    · exact .inl h7
    · exact .inr ⟨l', v', h7, h8, hel h9⟩
def PutTo (X : TxC) (m : Nat → Option (List UInt8)) (b : Nat) (l : List UInt8) : Nat → Option (List UInt8) := if seen X m b = l then m else upd m b (some l)
theorem seen_put (X : TxC) (m : Nat → Option (List UInt8)) (b : Nat) (l : List UInt8) (j : Nat) : seen X (PutTo X m b l) j = if j = b then l else seen X m j := by
  unfold PutTo
  by_cases h : seen X m b = l
  · rw [if_pos h]
    by_cases e : j = b
    · subst e; rw [if_pos rfl, h]
    · rw [if_neg e]
  · rw [if_neg h]
    unfold seen
    by_cases e : j = b
    · subst e; rw [if_pos rfl, upd_same]; rfl
    · rw [if_neg e, upd_other _ _ e]
def TPutPost (X : TxC) (n : Nat) (m : Nat → Option (List UInt8)) (b : Nat) (l : List UInt8) (w : World) (e : Ending) (w' : World) : Prop :=
  e = .returned (.int .i64 0) ∧ TxAt w' X (n + 1) (PutTo X m b l) ∧ Kept [X.d, X.own] w w'
set_option maxRecDepth 100000 in
set_option maxHeartbeats 2000000 in
theorem tput_walk (ok : TxOk X) (h : TxAt w X n m) (hn : n < 15) (b : Nat) (hb : b < X.Y.blocks) (l : List UInt8) (hl : l.length = 512) (ga oa c : Nat) (hB : BytesAt w (some ⟨ga, oa, none⟩) l) (hga : ga ≠ X.d) :
    Calls Tryz.prog 57 #[.pointer (some ⟨X.t, 0, none⟩), .int .i64 b, .slice (some ⟨ga, oa, none⟩) 512 c] w (TPutPost X n m b l w) := by
  have H := Lib.hid h
  have HOK := Lib.hid ok
  have HBY := Lib.hid hB
  have HA := Lib.hid (tat_walk ok h b hb)
  have HB := Lib.hid hb
  have HLL := Lib.hid hl
  have hb2 : b < 65536 := by have := ok.fit; have := ok.S; omega
  clear h ok hb hB hl
  go_enter Tryz.func57, Tryz.ntmps57
  go_wp2_with fail
  refine HA.out.mono ?_
  rintro e w1 ⟨rfl, hk1⟩
  have HK1 := Lib.hid hk1
  have hgt := get_walk HOK.out (H.out.still hk1) b HB.out
  have HGT := Lib.hid hgt
  clear hk1 hgt
  go_wp2_with fail
  refine HGT.out.mono ?_
  rintro e w2 ⟨v2, rfl, ho2, ht2, hk2⟩
  have hb22 := (HBY.out.kept HK1.out (by simp)).kept hk2 (by simpa using hga)
  have HB2 := Lib.hid hb22
  have HK2 := Lib.hid ((HK1.out.mono (G := [X.d, X.own]) (by simp)).trans hk2 (by simp))
  have HT2 := Lib.hid ht2
  obtain ⟨a2, c2, rfl⟩ := ho2.form
  obtain ⟨hsl, hba2⟩ := BytesAt.of_own ho2
  have heq := equal_walk a2 (some ⟨ga, oa, none⟩) (seen X m b) l c2 c w2 hba2 hb22
  rw [← hsl, HLL.out] at heq
  have HEQ := Lib.hid heq
  clear ho2 hk2 ht2 hb22 heq hba2 hsl HGT
  by_cases hsame : seen X m b = l
  · have hd : (seen X m b == l) = true := by rw [beq_iff_eq]; exact hsame
    rw [hd] at HEQ
    have HEND := Lib.hid (show TPutPost X n m b l w (.returned (.int .i64 0)) w2 from ⟨rfl, by unfold PutTo; rw [if_pos hsame]; exact HT2.out.mono (by omega), HK2.out⟩)
    clear hsame hd
    go_wp2_with fail
    refine HEQ.out.mono ?_
    rintro e w3 ⟨rfl, rfl⟩
    go_wp2
    go_ret
    exact HEND.out
  · have hd : (seen X m b == l) = false := by rw [beq_eq_false_iff_ne]; exact hsame
    rw [hd] at HEQ
    have HNS := Lib.hid hsame
    clear hsame hd
    go_wp2_with fail
    refine HEQ.out.mono ?_
    rintro e w3 ⟨rfl, rfl⟩
    obtain ⟨d0, d1, _⟩ := HT2.out.cells
    have hlt := lt_whole HT2.out.tx
    obtain ⟨mv, hpm, hmv⟩ := HT2.out.own
    have hlk := hpm.look_ok sl117 hb2
    obtain ⟨cn, hlen, hcn, _⟩ := hpm.len sl117 3
    have HPM := Lib.hid hpm
    have HMV := Lib.hid hmv
    have hge : ((16 : Int) ≤ (cn : Int)) = False := by simp; omega
    have HCL : Hid (∀ w', Kept [] w3 w' → Calls Tryz.prog 100 #[.slice (some ⟨ga, oa, none⟩) 512 c] w' fun e w'' => ∃ v w5, e = .returned v ∧ Kept [] w3 w'' ∧ w''.cell? ⟨X.t, 1, none⟩ = some (.map (some X.own)) ∧ (Instr.mapUpdate 117 (.map (some X.own)) (.int .i64 b) v).run Tryz.prog w'' = .ok () w5 ∧ TPutPost X n m b l w (.returned (.int .i64 0)) w5) := Lib.hid (fun w' hk' => by
      have hcl := clone_walk (some ⟨ga, oa, none⟩) l c w' (HB2.out.kept hk' (by simp)) (by rw [HLL.out]; omega) (by rw [HLL.out]; omega)
      rw [HLL.out] at hcl
      refine hcl.mono ?_
      rintro e w'' ⟨v, rfl, ho, hk⟩
      have hk3 : Kept [] w3 w'' := hk'.trans hk (by simp)
      have ht := HT2.out.still hk3
      rw [HLL.out] at ho
      have hpm4 := hpm.keep (hk3.block _ hpm.lt (by simp))
      obtain ⟨w5, hrun, hp5, hg5, _⟩ := hpm4.store sl117 hb2 (by omega) v
      refine ⟨v, w5, rfl, hk3, ht.cells.2.1, hrun, rfl, ?_, ?_⟩
      · unfold PutTo
        rw [if_neg HNS.out]
        refine ht.put HOK.out (mv := mv) (fun j => ?_) ⟨HLL.out, ho.mono (Nat.le_trans HT2.out.base_le hk'.size)⟩ hp5 hg5
        rcases hmv j with h7 | ⟨l', v', h7, h8, h9, h10⟩
        · exact .inl h7
        · exact .inr ⟨l', v', h7, h8, h9, h10.keep fun k hk'' => hk3.block k (h10.block hk'').2.1 (by simp)⟩
      · exact (HK2.out.trans (hk3.mono (G := [X.d, X.own]) (by simp)) (by simp)).grown hg5 (fun k e => by injection e with e; subst e; exact .inl (by simp)))
    clear hpm hmv
    cases hvb : mv b with
    | some v0 =>
      rw [hvb] at hlk
      simp only [Option.getD_some, Option.isSome_some] at hlk
      go_wp2_with fail
      refine wp_canon_call 6 [3] [[5, 6, 0, 1, 2, 3, 4, 7], [0, 1, 2, 3, 5, 6, 4, 7]] (by kernel_rfl) (by kernel_rfl) (by kernel_rfl) ⟨?_, ?_, trivial⟩
      all_goals simp only [fm_cons, List.filterMap_nil, List.getElem?_toArray, List.getElem?_cons_zero, List.getElem?_cons_succ, Option.elim_some]
      all_goals
        go_wp2_with fail
        refine (HCL.out _ ((Kept.refl [] w3).drew)).mono ?_
        rintro e w4 ⟨v, w5, rfl, hk4, hc4, hrun, hpost⟩
        have HEND := Lib.hid hpost
        have hl4 : X.t < w4.heap.size := World.block_lt_of_cell? w4 _ hc4
        clear hpost hk4
        go_wp2
        refine ⟨rfl, ?_⟩
        go_wp2
        go_ret
        exact HEND.out
    | none =>
      rw [hvb] at hlk
      simp only [Option.getD_none, Option.isSome_none] at hlk
      go_wp2_with fail
      refine wp_canon_call 6 [3] [[5, 6, 0, 1, 2, 3, 4, 7], [0, 1, 2, 3, 5, 6, 4, 7]] (by kernel_rfl) (by kernel_rfl) (by kernel_rfl) ⟨?_, ?_, trivial⟩
      all_goals simp only [fm_cons, List.filterMap_nil, List.getElem?_toArray, List.getElem?_cons_zero, List.getElem?_cons_succ, Option.elim_some]
      all_goals
        go_wp2_with fail
        refine (HCL.out _ ((Kept.refl [] w3).drew)).mono ?_
        rintro e w4 ⟨v, w5, rfl, hk4, hc4, hrun, hpost⟩
        have HEND := Lib.hid hpost
        have hl4 : X.t < w4.heap.size := World.block_lt_of_cell? w4 _ hc4
        clear hpost hk4
        go_wp2
        refine ⟨rfl, ?_⟩
        go_wp2
        go_ret
        exact HEND.out
end
end Go.Proofs.YtikfphojehgpjaaGreatDoor
