/- A region that draws its order and holds a call that panics. -/
import Derived.Test.YtenpihkfghfpaaaDoorCanonCall
namespace Vl
open Go
set_option linter.unusedVariables false
section
variable {P : Program} {ops : Array Oper} {c : Nat} {R : Act → World → Prop}

theorem any_of_panic (ok : CallOk P ops c) {Q : Exit → Act → World → Prop} (hR : ∀ a w, R a w → ∀ (j : Nat) o, ops[j]? = some o → sideIf ops o a) (hQ : ∀ a w, R a w → wpOp P ops Q c (fun _ _ => False) a w) :
    ∀ (fuel : Nat) (listed : Array Bool), Down ops listed → listed.getD c false = false → (rest ops listed).length = fuel → ∀ (a : Act) (w : World),
      (∀ M, Closed ops listed c M → wpOps P ops (OnlyNormal R) ((rest ops listed).filter fun j => M j) a w) → wpAny P .any ops Q fuel listed a w
  | 0, listed, hd, hc, hl, a, w, h => by
    have hr : rest ops listed = [] := List.eq_nil_of_length_eq_zero hl
    have : c ∈ rest ops listed := (mem_rest hd.size).2 ⟨ok.lt, hc⟩
    rw [hr] at this; cases this
  | fuel + 1, listed, hd, hc, hl, a, w, h => by
    have hcm : c ∈ rest ops listed := (mem_rest hd.size).2 ⟨ok.lt, hc⟩
    have hend : Region.ready .any ops listed = [] → Q .normal a w := by
      intro hn
      have := rest_nil ok.ok hd hn
      rw [this] at hcm; cases hcm
    refine ⟨hend, fun i hi => ?_⟩
    obtain ⟨h1, oi, hoi, hall0⟩ := mem_ready.1 hi
    have hall : ∀ e ∈ oi.after, Region.binds .any e = true → listed.getD e.on false = true := hall0
    have hilt := (Array.getElem?_eq_some_iff.1 hoi).1
    have him : i ∈ rest ops listed := by
      unfold rest; rw [List.mem_filter, List.mem_range]; exact ⟨hilt, by rw [h1]; rfl⟩
    have hil : listed.getD i false = false := ((mem_rest hd.size).1 him).2
    obtain ⟨pre, post, e1, e2⟩ := rest_set hd.size him
    have hsorted := rest_sorted (ops := ops) listed
    have hd' := down_set hd hoi hall
    have hsz : i < listed.size := by rw [hd.size]; exact hilt
    have hlen : (rest ops (listed.setIfInBounds i true)).length = fuel := by
      rw [e2]; rw [e1] at hl
      simp only [List.length_append, List.length_cons] at hl ⊢
      omega
    have hready : ∀ k, Dep ops k i → listed.getD k false = true := fun k hk => hd.ready hk hi
    by_cases hic : i = c
    · subst hic
      have hM := h (fun _ => false) ⟨rfl, fun j o ho hj hlj e he hb => by
        rcases hj with hj | rfl
        · cases hj
        · rw [hoi] at ho; cases ho
          exact .inl (hall e he hb)⟩
      have f1 : (rest ops listed).filter (fun _ => false) = [] := by simp
      rw [f1] at hM
      exact wpOp_mono (fun a w h3 => h3.elim) (hQ a w hM)
    · have hc' : (listed.setIfInBounds i true).getD c false = false := by
        rw [getD_set hsz, hc]; simp; exact fun e => hic e.symm
      have hcd : ¬ Dep ops c i := fun hdep => by have := hready c hdep; rw [hc] at this; cases this
      -- the set, with i
      have big : ∀ M', Closed ops (listed.setIfInBounds i true) c M' → Closed ops listed c (fun j => M' j || j == i) := by
        intro M' hM'
        refine ⟨by rw [hM'.not]; simp; exact fun e => hic e.symm, fun j o ho hj hlj e he hb => ?_⟩
        by_cases hji : j = i
        · subst hji; rw [hoi] at ho; cases ho
          exact .inl (hall e he hb)
        · have := hM'.dep j o ho (hj.imp (fun h => by simpa [hji] using h) id) (by rw [getD_set hsz, hlj]; simpa using hji) e he hb
          rw [getD_set hsz] at this
          rcases this with h5 | h5
          · simp at h5
            rcases h5 with h5 | h5
            · exact .inl (by simpa using h5)
            · exact .inr (by simp [h5])
          · exact .inr (by simp [h5])
      have hone : ∀ M', Closed ops (listed.setIfInBounds i true) c M' → wpOps P ops (OnlyNormal R) (i :: (rest ops (listed.setIfInBounds i true)).filter fun j => M' j) a w := by
        intro M' hM'
        have hB := big M' hM'
        have hL := h _ hB
        have hnd : (rest ops listed).Nodup := List.Pairwise.filter _ List.nodup_range
        rw [e1, List.nodup_append, List.nodup_cons] at hnd
        obtain ⟨_, ⟨hn3, _⟩, hn4⟩ := hnd
        have npre : ∀ x ∈ pre, x ≠ i := fun x hx => hn4 x hx i (List.mem_cons_self ..)
        have npost : ∀ x ∈ post, x ≠ i := fun x hx e => hn3 (e ▸ hx)
        have f1 : (rest ops listed).filter (fun j => M' j || j == i) = pre.filter (fun j => M' j) ++ i :: post.filter (fun j => M' j) := by
          rw [e1, List.filter_append, List.filter_cons]
          simp only [beq_self_eq_true, Bool.or_true, if_true]
          congr 1
          · apply List.filter_congr; intro x hx; simp [npre x hx]
          · congr 1; apply List.filter_congr; intro x hx; simp [npost x hx]
        have hL' : wpOps P ops (OnlyNormal R) (pre.filter (fun j => M' j) ++ i :: (post.filter (fun j => M' j) ++ [])) a w := by
          rw [List.append_nil, ← f1]; exact hL
        have hgoal : i :: (rest ops (listed.setIfInBounds i true)).filter (fun j => M' j) = i :: (pre.filter (fun j => M' j) ++ (post.filter (fun j => M' j) ++ [])) := by
          rw [e2, List.filter_append, List.append_nil]
        rw [hgoal]
        have inr : ∀ x, x ∈ pre ∨ x ∈ post → x ∈ rest ops listed := fun x hx => by
          rw [e1]; exact hx.elim (List.mem_append_left _) (fun h => List.mem_append_right _ (List.mem_cons_of_mem _ h))
        have unl : ∀ x ∈ rest ops listed, listed.getD x false = false := fun x hx => ((mem_rest hd.size).1 hx).2
        have unl' : ∀ x, (x ∈ pre ∨ x ∈ post) → (listed.setIfInBounds i true).getD x false = false := fun x hx => by
          rw [getD_set hsz, unl x (inr x hx)]
          simp; exact hx.elim (npre x) (npost x)
        have ndi : ∀ x ∈ rest ops listed, ¬ Dep ops x i := fun x hx hdep => by have := hready x hdep; rw [unl x hx] at this; cases this
        rw [e1, List.pairwise_append, List.pairwise_cons] at hsorted
        obtain ⟨hs1, ⟨hs2, hs3⟩, hs4⟩ := hsorted
        have inpost : ∀ x, x ∈ post.filter (fun j => M' j) ++ [] → x ∈ rest ops listed := by
          intro x hx
          rw [List.append_nil] at hx
          exact inr x (.inr (List.mem_filter.1 hx).1)
        refine move hR hoi (ok.ok.ns _ _ hoi) _ (fun j hj => ok.nw hoi (.inr (ndi j (inpost j hj)))) (ok.nw hoi (.inl (Nat.le_refl _))) (pre.filter fun j => M' j) (fun p hp => ?_) (fun p hp q hq op hop hpq => ok.nw hop (.inl hpq)) (List.Pairwise.filter _ hs1) a w hL'
        obtain ⟨hp1, hp2⟩ := List.mem_filter.1 hp
        have hpr := inr p (.inl hp1)
        have hplt : p < i := hs4 p hp1 i (List.mem_cons_self ..)
        have hop : ops[p]? = some (ops[p]'((mem_rest hd.size).1 hpr).1) := Array.getElem?_eq_getElem _
        have hpc : p ≠ c := fun e => by rw [e, hM'.not] at hp2; cases hp2
        have hfr := (ok.ok.free p i _ oi hop hoi hplt hpc hic).resolve_left (ndi p hpr)
        refine ⟨ok.nw hoi (.inr (ndi p hpr)), _, hop, ok.ok.ns _ _ hop, hfr.1, hfr.2, ok.nw hop (.inl (Nat.le_of_lt hplt)), ok.nw hop (.inl (Nat.le_refl _)), fun j hj => ?_⟩
        rw [List.append_nil] at hj
        exact ok.nw hop (.inl (Nat.le_of_lt (hs4 p hp1 j (List.mem_cons_of_mem _ (List.mem_filter.1 hj).1))))
      have hstar : Closed ops (listed.setIfInBounds i true) c (fun j => @decide (Dep ops j c) (Classical.propDecidable _)) := by
        classical
        refine ⟨?_, fun j o ho hj hlj e he hb => .inr ?_⟩
        · rw [decide_eq_false_iff_not]; intro hdep; have := dep_lt ok.ok hdep; omega
        · rw [decide_eq_true_iff]
          have h1 : Dep ops e.on j := .one ho he hb rfl
          rcases hj with hj | rfl
          · rw [decide_eq_true_iff] at hj
            exact .step h1 hj
          · exact h1
      haveI : Nonempty {M' // Closed ops (listed.setIfInBounds i true) c M'} := ⟨⟨_, hstar⟩⟩
      have hside : sideIf ops oi a := by
        refine side_now hR hoi (fun j hj => ?_) (hone _ hstar)
        rcases List.mem_cons.1 hj with rfl | hj
        · exact ok.nw hoi (.inl (Nat.le_refl _))
        · refine ok.nw hoi (.inr fun hdep => ?_)
          have hjr : j ∈ rest ops listed := by
            have hsub : ∀ x ∈ rest ops (listed.setIfInBounds i true), x ∈ rest ops listed := fun x hx => by
              rw [rest_filter hd.size] at hx; exact (List.mem_filter.1 hx).1
            exact hsub j (List.mem_filter.1 hj).1
          have := hready j hdep
          rw [((mem_rest hd.size).1 hjr).2] at this; cases this
      have hall' := wpOp_all (P := P) (R := R) hoi ((ok.kind i oi hoi hic).resolve_left hcd) (ι := {M' // Closed ops (listed.setIfInBounds i true) c M'}) (K := fun x => wpOps P ops (OnlyNormal R) ((rest ops (listed.setIfInBounds i true)).filter fun j => x.1 j)) hside (fun x => by
        have := hone x.1 x.2
        rw [wpOps_cons] at this
        exact this)
      refine wpOp_mono (fun a w h3 => ?_) (wpOp_weaken hall')
      exact any_of_panic ok hR hQ fuel _ hd' hc' hlen a w (fun M hM => h3 ⟨M, hM⟩)


/-- What may come ahead of the call. -/
def aheadOf (l : List Oper) (c : Nat) (FN : List Nat) : List (List Nat) := (subs FN).map fun N => (List.range l.length).filter fun j => m0 (bitsAll l []) c N j
def panicB (P : Program) (l : List Oper) (c : Nat) (FN : List Nat) : Bool :=
  callB P l c FN && (List.range l.length).all fun j => j == c || Nat.testBit ((bitsAll l []).getD c 0) j || Nat.testBit ((bitsAll l []).getD j 0) c || FN.contains j
/-- No normal end. -/
def NoNormal (Q : Exit → Act → World → Prop) : Exit → Act → World → Prop
  | .normal, _, _ => False
  | e, a, w => Q e a w

theorem wpOp_out {Q Q' : Exit → Act → World → Prop} (hQ : ∀ e a w, Q e a w → Q' e a w) {i : Nat} {K : Act → World → Prop} {a : Act} {w : World} (h : wpOp P ops Q i K a w) : wpOp P ops Q' i K a w := by
  unfold wpOp at *
  split
  · rename_i ho; simp only [ho] at h; exact h
  · rename_i o ho
    simp only [ho] at h
    split
    · rename_i hw
      simp only [hw, if_true] at h
      rcases h with h | ⟨h1, x, y, h⟩
      · left
        unfold Oper.wp at *
        generalize (execOp a.eval o).run P w = r at *
        cases r with
        | ok n w' =>
          cases n <;> simp only [Oper.upon] at h ⊢ <;> first | exact h | exact hQ _ _ _ h | exact Calls.mono h (fun e w'' he => by cases e <;> first | exact he | exact hQ _ _ _ he | exact ⟨he.1, he.2.1, hQ _ _ _ he.2.2⟩ | exact he.elim fun x hx => hx.elim fun y hy => ⟨x, y, hQ _ _ _ hy⟩)
        | halt x w' => cases x <;> simp only [Oper.upon] at h ⊢ <;> first | exact h | exact hQ _ _ _ h
      · exact .inr ⟨h1, x, y, hQ _ _ _ h⟩
    · rename_i hw
      simp only [hw] at h
      exact h
theorem NoNormal.out {Q : Exit → Act → World → Prop} : ∀ e a w, NoNormal Q e a w → Q e a w := fun e a w h => by cases e <;> first | exact h | exact h.elim

/-- A REGION THAT DRAWS ITS ORDER AND HOLDS ONE CALL, WHICH PANICS: walked once for each set of operations that the draw can lay ahead of it. -/
theorem wp_canon_panic {l : List Oper} {Q : Exit → Act → World → Prop} {a : Act} {w : World} {id : Nat} (c : Nat) (FN : List Nat) (Ls : List (List Nat)) (hm : P.follows .mixedOrders = true) (hc : panicB P l c FN = true)
    (hL : ((aheadOf l c FN).all fun x => Ls.contains x) = true)
    (h : AllL (fun js => wpList P l.toArray (OnlyNormal fun a w => sideB l a = true ∧ wpList P l.toArray (NoNormal Q) ([c].filterMap fun j => l.toArray[j]?) a w) (js.filterMap fun j => l.toArray[j]?) a w.drew) Ls) : (Code.region id l.toArray true).wp P Q a w := by
  unfold panicB at hc
  rw [Bool.and_eq_true] at hc
  obtain ⟨hc, hopt⟩ := hc
  obtain ⟨ok, _, hcl⟩ := callB_ok hc
  have hclt : c < l.length := by simpa using ok.lt
  have hR : ∀ a w, (sideB l a = true ∧ wpList P l.toArray (NoNormal Q) ([c].filterMap fun j => l.toArray[j]?) a w) → ∀ (j : Nat) o, l.toArray[j]? = some o → sideIf l.toArray o a := by
    intro a w hr j o ho hw
    have h1 := List.all_eq_true.1 hr.1 o (by
      obtain ⟨hlt, e⟩ := (Array.getElem?_eq_some_iff.1 ho)
      subst e
      simp)
    rw [hw] at h1
    simpa using h1
  have hno : ∀ j, (Array.replicate l.toArray.size false).getD j false = false := by
    intro j
    simp only [Array.getD_eq_getD_getElem?, Array.getElem?_replicate]
    split <;> rfl
  have hd : Down l.toArray (Array.replicate l.toArray.size false) := ⟨by simp, fun j o ho hl => by rw [hno] at hl; cases hl⟩
  refine wp_region_any hm ?_
  have hdrew : ({ w with drawn := w.drawn + 1 } : World) = w.drew := rfl
  rw [hdrew]
  have hrest : rest l.toArray (Array.replicate l.toArray.size false) = List.range l.toArray.size := by
    unfold rest
    rw [List.filter_eq_self.2]
    intro i hi
    have := List.mem_range.1 hi
    simp at this
    simp [this]
  refine any_of_panic (R := fun a w => sideB l a = true ∧ wpList P l.toArray (NoNormal Q) ([c].filterMap fun j => l.toArray[j]?) a w) ok hR (fun a w hr => ?_) _ _ hd (hno c) ?_ a _ (fun M hM => ?_)
  · have h2 := hr.2
    rw [← wpOps_list, wpOps_cons] at h2
    exact wpOp_out NoNormal.out (wpOp_mono (fun a w h => h) h2)
  · rw [hrest]; simp
  · rw [hrest]
    have hlist : (List.range l.toArray.size).filter (fun j => M j) ∈ aheadOf l c FN := by
      refine List.mem_map.2 ⟨FN.filter (fun j => M j), mem_subs M FN, ?_⟩
      rw [show l.toArray.size = l.length by simp]
      refine List.filter_congr fun j hj => ?_
      have hjl := List.mem_range.1 hj
      have hmem : ∀ x, x ∈ FN.filter (fun j => M j) → M x = true := fun x hx => (List.mem_filter.1 hx).2
      rw [Bool.eq_iff_iff]
      constructor
      · intro hj
        unfold m0 at hj
        rw [Bool.or_eq_true] at hj
        rcases hj with hj | hj
        · exact hM.down hd (dep_bits hj) (.inr rfl) (hno j) (hno c)
        · obtain ⟨x, hx, hj⟩ := List.any_eq_true.1 hj
          rw [Bool.or_eq_true] at hj
          rcases hj with hj | hj
          · have : x = j := by simpa using hj
            exact this ▸ hmem x hx
          · exact hM.down hd (dep_bits hj) (.inl (hmem x hx)) (hno j) (hno x)
      · intro hMj
        unfold m0
        have h1 := List.all_eq_true.1 hopt j hj
        simp only [Bool.or_eq_true] at h1 ⊢
        rcases h1 with ((h1 | h1) | h1) | h1
        · have : j = c := by simpa using h1
          rw [this, hM.not] at hMj; cases hMj
        · exact .inl h1
        · have := hM.down hd (dep_bits h1) (.inl hMj) (hno c) (hno j)
          rw [hM.not] at this; cases this
        · refine .inr (List.any_eq_true.2 ⟨j, List.mem_filter.2 ⟨by simpa using h1, hMj⟩, by simp⟩)
    have hin2 : (List.range l.toArray.size).filter (fun j => M j) ∈ Ls := by
      have := List.all_eq_true.1 hL _ hlist
      simpa using this
    have := h.mem _ hin2
    rw [← wpOps_list] at this
    exact this
end
end Vl
