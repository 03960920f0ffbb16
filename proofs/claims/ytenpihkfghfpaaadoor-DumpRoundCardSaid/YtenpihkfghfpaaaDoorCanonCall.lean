/- A region that draws its order and holds one call of a function: it is enough to walk it in the text's order with the call at each place that the draw can give it among the operations that read or make memory. No program in sight. -/
import Derived.Test.YtenpihkfghfpaaaDoorCanon
namespace Vl
open Go
set_option linter.unusedVariables false
section
variable {P : Program} {ops : Array Oper} {R : Act → World → Prop} {c : Nat}

structure CallOk (P : Program) (ops : Array Oper) (c : Nat) : Prop where
  ok : CanonOk P ops c
  lt : c < ops.size
  apartc : ∀ (j : Nat) oj oc, ops[j]? = some oj → ops[c]? = some oc → j ≠ c → Dep ops j c ∨ Dep ops c j ∨ (oj.apart ops oc = true ∧ oc.apart ops oj = true)
  kind : ∀ (j : Nat) oj, ops[j]? = some oj → j ≠ c → Dep ops c j ∨ clsOf P oj ≠ .heavy
  sym : ∀ (p i : Nat) op oi, ops[p]? = some op → ops[i]? = some oi → p < i → p ≠ c → i ≠ c → Dep ops p i ∨ oi.apart ops op = true

theorem dep_lt (ok : CanonOk P ops c) {i j : Nat} (h : Dep ops i j) : i < j := by
  induction h with
  | one ho he hb hi => subst hi; exact ok.back _ _ ho _ he hb
  | step _ _ h1 h2 => omega

theorem CallOk.nw (ok : CallOk P ops c) {p j : Nat} {op : Oper} (hop : ops[p]? = some op) (h : p ≤ j ∨ ¬ Dep ops j p) : noWrite ops j op := by
  cases he : easy op with
  | true => exact .inl he
  | false =>
  have hne : ¬ easy op = true := by rw [he]; decide
  refine .inr fun oj hoj d hd => ?_
  rcases Nat.lt_trichotomy p j with hlt | rfl | hgt
  · exact (ok.ok.later p j op oj hop hoj hlt).resolve_left hne d hd
  · rw [hop] at hoj; cases hoj; exact (ok.ok.own _ _ hop).resolve_left hne d hd
  · have hnd : ¬ Dep ops j p := h.resolve_left (by omega)
    by_cases hjc : j = c
    · subst hjc
      rcases ok.apartc p op oj hop hoj (by omega) with h1 | h1 | ⟨_, h1⟩
      · have := dep_lt ok.ok h1; omega
      · exact absurd h1 hnd
      · exact (Oper.apart_spec h1).1 d hd
    by_cases hpc : p = c
    · subst hpc
      rcases ok.apartc j oj op hoj hop hjc with h1 | h1 | ⟨h1, _⟩
      · exact absurd h1 hnd
      · have := dep_lt ok.ok h1; omega
      · exact (Oper.apart_spec h1).1 d hd
    · rcases ok.ok.free j p oj op hoj hop hgt hjc hpc with h1 | ⟨h1, _⟩
      · exact absurd h1 hnd
      · exact (Oper.apart_spec h1).1 d hd

/-- An operation that is no call runs one way: what holds behind it for each of many holds behind it for all of them. -/
theorem wpOp_all {ι : Type} [Nonempty ι] {i : Nat} {o : Oper} (ho : ops[i]? = some o) (hk : clsOf P o ≠ .heavy) {K : ι → Act → World → Prop} {a : Act} {w : World} (hs : sideIf ops o a)
    (h : ∀ x, wpOp P ops (OnlyNormal R) i (K x) a w) : wpOp P ops (OnlyNormal R) i (fun a w => ∀ x, K x a w) a w := by
  obtain ⟨x0⟩ := ‹Nonempty ι›
  unfold wpOp at h ⊢
  simp only [ho] at h ⊢
  by_cases hw : Region.wanted o (yielded ops a.tmps) = true
  · simp only [hw, if_true] at h ⊢
    have hside := hs hw
    have h' : ∀ x, Oper.wp P o a w (K x) (OnlyNormal R) := fun x => (h x).elim id fun h => absurd h.2 (not_letsOut R)
    refine .inl ?_
    unfold Oper.wp at h' ⊢
    have hval : ∀ n w1, (execOp a.eval o).run P w = .ok n w1 → ∃ v, n = .value v := by
      intro n w1 hr
      cases hc : clsOf P o with
      | pure => obtain ⟨v, e, _⟩ := valued_run (valued_pure hc hside) hr; exact ⟨v, e⟩
      | load => obtain ⟨v, e, _⟩ := valued_run (valued_load hc hside) hr; exact ⟨v, e⟩
      | alloc => obtain ⟨v, e, _⟩ := alloc_run hc hr; exact ⟨v, e⟩
      | heavy => exact absurd hc hk
    generalize hr : (execOp a.eval o).run P w = r at *
    cases r with
    | ok n w1 =>
      obtain ⟨v, rfl⟩ := hval n w1 rfl
      exact fun x => h' x
    | halt x w1 =>
      have := h' x0
      cases x <;> simp only [Oper.upon] at this ⊢
      all_goals exact this
  · simp only [hw] at h ⊢
    exact fun x => h x

def cutL (M : Nat → Bool) (c : Nat) (r : List Nat) : List Nat := r.filter (fun j => M j) ++ c :: r.filter (fun j => !M j && j != c)

/-- A set of operations that may all come ahead of the call. -/
structure Closed (ops : Array Oper) (listed : Array Bool) (c : Nat) (M : Nat → Bool) : Prop where
  not : M c = false
  dep : ∀ j o, ops[j]? = some o → (M j = true ∨ j = c) → listed.getD j false = false → ∀ e ∈ o.after, Region.binds .any e = true → listed.getD e.on false = true ∨ M e.on = true

/-- Behind an operation that has been listed. -/
theorem down_set {listed : Array Bool} (hd : Down ops listed) {i : Nat} {oi : Oper} (hoi : ops[i]? = some oi) (hall : ∀ e ∈ oi.after, Region.binds .any e = true → listed.getD e.on false = true) : Down ops (listed.setIfInBounds i true) := by
  have hilt := (Array.getElem?_eq_some_iff.1 hoi).1
  refine ⟨by simp [hd.size], fun j oj hj hlj e he hb => ?_⟩
  have up : ∀ k, listed.getD k false = true → (listed.setIfInBounds i true).getD k false = true := by
    intro k hk
    by_cases hki : k = i
    · subst hki
      have : k < listed.size := by rw [hd.size]; exact hilt
      simp [this]
    · simpa [Array.getElem?_setIfInBounds_ne (Ne.symm hki)] using hk
  by_cases hji : j = i
  · subst hji
    rw [hoi] at hj; cases hj
    exact up _ (hall e he hb)
  · refine up _ (hd.closed j oj hj ?_ e he hb)
    simpa [Array.getElem?_setIfInBounds_ne (Ne.symm hji)] using hlj

theorem getD_set {listed : Array Bool} {i j : Nat} (hs : i < listed.size) : (listed.setIfInBounds i true).getD j false = (listed.getD j false || decide (j = i)) := by
  by_cases h : j = i
  · subst h; simp [hs]
  · simp [Array.getElem?_setIfInBounds_ne (Ne.symm h), h]

/-- An unlisted operation on which an element of a closed set hangs lies in the set. -/
theorem Closed.down {listed : Array Bool} {M : Nat → Bool} (h : Closed ops listed c M) (hd : Down ops listed) {i j : Nat} (hdep : Dep ops i j) (hj : M j = true ∨ j = c) (hl : listed.getD i false = false) (hlj : listed.getD j false = false) : M i = true := by
  induction hdep with
  | one ho he hb hi =>
    subst hi
    rcases h.dep _ _ ho hj hlj _ he hb with h1 | h1
    · rw [hl] at h1; cases h1
    · exact h1
  | @step i k j h1 h2 ih1 ih2 =>
    cases hk : listed.getD k false with
    | true =>
      have := hd.dep h1 hk
      rw [hl] at this; cases this
    | false => exact ih1 (.inl (ih2 hj hk hlj)) hl hk

theorem rest_filter {listed : Array Bool} (hs : listed.size = ops.size) {i : Nat} : rest ops (listed.setIfInBounds i true) = (rest ops listed).filter fun j => j != i := by
  unfold rest
  rw [List.filter_filter]
  apply List.filter_congr
  intro j hj
  have hj' : j < listed.size := by rw [hs]; exact List.mem_range.1 hj
  by_cases hji : j = i
  · subst hji; simp [hj']
  · simp [hji, Array.getElem?_setIfInBounds_ne (Ne.symm hji)]

theorem rest_nil (ok : CanonOk P ops c) {listed : Array Bool} (hd : Down ops listed) (hn : Region.ready .any ops listed = []) : rest ops listed = [] := by
  cases hr : rest ops listed with
  | nil => rfl
  | cons i l =>
    exfalso
    have hi : i ∈ rest ops listed := by rw [hr]; exact List.mem_cons_self ..
    obtain ⟨hi1, hi2⟩ := (mem_rest hd.size).1 hi
    have hsome : ops[i]? = some ops[i] := Array.getElem?_eq_getElem hi1
    have hmem : i ∈ Region.ready .any ops listed := by
      refine mem_ready.2 ⟨?_, ops[i], hsome, fun e he hb => ?_⟩
      · have : i < listed.size := by rw [hd.size]; exact hi1
        simp [this] at hi2 ⊢; exact hi2
      · have hlt := ok.back i _ hsome e he hb
        cases hle : listed.getD e.on false with
        | true => rfl
        | false =>
          have hm : e.on ∈ rest ops listed := (mem_rest hd.size).2 ⟨by omega, hle⟩
          rw [hr] at hm
          have hs := rest_sorted (ops := ops) listed
          rw [hr, List.pairwise_cons] at hs
          rcases List.mem_cons.1 hm with e' | hm
          · omega
          · have := hs.1 _ hm; omega
    rw [hn] at hmem; cases hmem

theorem any_of_cuts (ok : CallOk P ops c) {Q : Exit → Act → World → Prop} (hR : ∀ a w, R a w → ∀ (j : Nat) o, ops[j]? = some o → sideIf ops o a) (hQ : ∀ a w, R a w → Q .normal a w) :
    ∀ (fuel : Nat) (listed : Array Bool), Down ops listed → listed.getD c false = false → (rest ops listed).length = fuel → ∀ (a : Act) (w : World),
      (∀ M, Closed ops listed c M → wpOps P ops (OnlyNormal R) (cutL M c (rest ops listed)) a w) → wpAny P .any ops Q fuel listed a w
  | 0, listed, hd, hc, hl, a, w, h => by
    have hr : rest ops listed = [] := List.eq_nil_of_length_eq_zero hl
    have : c ∈ rest ops listed := (mem_rest hd.size).2 ⟨ok.lt, hc⟩
    rw [hr] at this; cases this
  | fuel + 1, listed, hd, hc, hl, a, w, h => by
    have hcm : c ∈ rest ops listed := (mem_rest hd.size).2 ⟨ok.lt, hc⟩
    have hend : Region.ready .any ops listed = [] → Q .normal a w := by
      intro hn
      have := rest_nil ok.ok hd hn
      rw [this] at hcm; cases hcm
    refine ⟨hend, fun i hi => ?_⟩
    obtain ⟨h1, oi, hoi, hall0⟩ := mem_ready.1 hi
    have hall : ∀ e ∈ oi.after, Region.binds .any e = true → listed.getD e.on false = true := hall0
    have hilt := (Array.getElem?_eq_some_iff.1 hoi).1
    have him : i ∈ rest ops listed := by
      unfold rest; rw [List.mem_filter, List.mem_range]; exact ⟨hilt, by rw [h1]; rfl⟩
    have hil : listed.getD i false = false := ((mem_rest hd.size).1 him).2
    obtain ⟨pre, post, e1, e2⟩ := rest_set hd.size him
    have hsorted := rest_sorted (ops := ops) listed
    have hd' := down_set hd hoi hall
    have hsz : i < listed.size := by rw [hd.size]; exact hilt
    have hlen : (rest ops (listed.setIfInBounds i true)).length = fuel := by
      rw [e2]; rw [e1] at hl
      simp only [List.length_append, List.length_cons] at hl ⊢
      omega
    have hready : ∀ k, Dep ops k i → listed.getD k false = true := fun k hk => hd.ready hk hi
    by_cases hic : i = c
    · subst hic
      have hM := h (fun _ => false) ⟨rfl, fun j o ho hj hlj e he hb => by
        rcases hj with hj | rfl
        · cases hj
        · rw [hoi] at ho; cases ho
          exact .inl (hall e he hb)⟩
      have hcut : cutL (fun _ => false) i (rest ops listed) = i :: rest ops (listed.setIfInBounds i true) := by
        unfold cutL
        rw [rest_filter hd.size]
        have f1 : (rest ops listed).filter (fun _ => false) = [] := by simp
        rw [f1, List.nil_append]
        simp only [Bool.not_false, Bool.true_and]
      rw [hcut, wpOps_cons] at hM
      refine wpOp_mono (fun a w h3 => ?_) (wpOp_weaken hM)
      exact any_of_text ok.ok hR hQ fuel _ hd' (fun hm => by
        have := ((mem_rest hd'.size).1 hm).2
        rw [getD_set hsz] at this
        simp at this) hlen a w h3
    · have hc' : (listed.setIfInBounds i true).getD c false = false := by
        rw [getD_set hsz, hc]; simp; exact fun e => hic e.symm
      have hcd : ¬ Dep ops c i := fun hdep => by have := hready c hdep; rw [hc] at this; cases this
      -- the set, with i
      have big : ∀ M', Closed ops (listed.setIfInBounds i true) c M' → Closed ops listed c (fun j => M' j || j == i) := by
        intro M' hM'
        refine ⟨by rw [hM'.not]; simp; exact fun e => hic e.symm, fun j o ho hj hlj e he hb => ?_⟩
        by_cases hji : j = i
        · subst hji; rw [hoi] at ho; cases ho
          exact .inl (hall e he hb)
        · have := hM'.dep j o ho (hj.imp (fun h => by simpa [hji] using h) id) (by rw [getD_set hsz, hlj]; simpa using hji) e he hb
          rw [getD_set hsz] at this
          rcases this with h5 | h5
          · simp at h5
            rcases h5 with h5 | h5
            · exact .inl (by simpa using h5)
            · exact .inr (by simp [h5])
          · exact .inr (by simp [h5])
      have hone : ∀ M', Closed ops (listed.setIfInBounds i true) c M' → wpOps P ops (OnlyNormal R) (i :: cutL M' c (rest ops (listed.setIfInBounds i true))) a w := by
        intro M' hM'
        have hB := big M' hM'
        have hL := h _ hB
        have hnd : (rest ops listed).Nodup := List.Pairwise.filter _ List.nodup_range
        rw [e1, List.nodup_append, List.nodup_cons] at hnd
        obtain ⟨_, ⟨hn3, _⟩, hn4⟩ := hnd
        have npre : ∀ x ∈ pre, x ≠ i := fun x hx => hn4 x hx i (List.mem_cons_self ..)
        have npost : ∀ x ∈ post, x ≠ i := fun x hx e => hn3 (e ▸ hx)
        have f1 : (rest ops listed).filter (fun j => M' j || j == i) = pre.filter (fun j => M' j) ++ i :: post.filter (fun j => M' j) := by
          rw [e1, List.filter_append, List.filter_cons]
          simp only [beq_self_eq_true, Bool.or_true, if_true]
          congr 1
          · apply List.filter_congr; intro x hx; simp [npre x hx]
          · congr 1; apply List.filter_congr; intro x hx; simp [npost x hx]
        have f2 : (rest ops listed).filter (fun j => !(M' j || j == i) && j != c) = (pre ++ post).filter (fun j => !M' j && j != c) := by
          rw [e1, List.filter_append, List.filter_cons, List.filter_append]
          simp only [beq_self_eq_true, Bool.or_true, Bool.not_true, Bool.false_and, Bool.false_eq_true, if_false]
          have g1 : pre.filter (fun j => !(M' j || j == i) && j != c) = pre.filter (fun j => !M' j && j != c) := by
            apply List.filter_congr; intro x hx; rw [show (x == i) = false by simpa using npre x hx, Bool.or_false]
          have g2 : post.filter (fun j => !(M' j || j == i) && j != c) = post.filter (fun j => !M' j && j != c) := by
            apply List.filter_congr; intro x hx; rw [show (x == i) = false by simpa using npost x hx, Bool.or_false]
          rw [g1, g2]
        have hL' : wpOps P ops (OnlyNormal R) (pre.filter (fun j => M' j) ++ i :: (post.filter (fun j => M' j) ++ c :: (pre ++ post).filter (fun j => !M' j && j != c))) a w := by
          have e : cutL (fun j => M' j || j == i) c (rest ops listed) = pre.filter (fun j => M' j) ++ i :: (post.filter (fun j => M' j) ++ c :: (pre ++ post).filter (fun j => !M' j && j != c)) := by
            unfold cutL; rw [f1, f2]; simp
          rw [← e]; exact hL
        have hgoal : i :: cutL M' c (rest ops (listed.setIfInBounds i true)) = i :: (pre.filter (fun j => M' j) ++ (post.filter (fun j => M' j) ++ c :: (pre ++ post).filter (fun j => !M' j && j != c))) := by
          unfold cutL; rw [e2, List.filter_append]; simp
        rw [hgoal]
        have inr : ∀ x, x ∈ pre ∨ x ∈ post → x ∈ rest ops listed := fun x hx => by
          rw [e1]; exact hx.elim (List.mem_append_left _) (fun h => List.mem_append_right _ (List.mem_cons_of_mem _ h))
        have unl : ∀ x ∈ rest ops listed, listed.getD x false = false := fun x hx => ((mem_rest hd.size).1 hx).2
        have unl' : ∀ x, (x ∈ pre ∨ x ∈ post) → (listed.setIfInBounds i true).getD x false = false := fun x hx => by
          rw [getD_set hsz, unl x (inr x hx)]
          simp; exact hx.elim (npre x) (npost x)
        have ndi : ∀ x ∈ rest ops listed, ¬ Dep ops x i := fun x hx hdep => by have := hready x hdep; rw [unl x hx] at this; cases this
        rw [e1, List.pairwise_append, List.pairwise_cons] at hsorted
        obtain ⟨hs1, ⟨hs2, hs3⟩, hs4⟩ := hsorted
        have inpost : ∀ x, x ∈ post.filter (fun j => M' j) ++ c :: (pre ++ post).filter (fun j => !M' j && j != c) → x ∈ rest ops listed := by
          intro x hx
          rcases List.mem_append.1 hx with hx | hx
          · exact inr x (.inr (List.mem_filter.1 hx).1)
          rcases List.mem_cons.1 hx with rfl | hx
          · exact hcm
          · exact inr x (List.mem_append.1 (List.mem_filter.1 hx).1)
        refine move hR hoi (ok.ok.ns _ _ hoi) _ (fun j hj => ok.nw hoi (.inr (ndi j (inpost j hj)))) (ok.nw hoi (.inl (Nat.le_refl _))) (pre.filter fun j => M' j) (fun p hp => ?_) (fun p hp q hq op hop hpq => ok.nw hop (.inl hpq)) (List.Pairwise.filter _ hs1) a w hL'
        obtain ⟨hp1, hp2⟩ := List.mem_filter.1 hp
        have hpr := inr p (.inl hp1)
        have hplt : p < i := hs4 p hp1 i (List.mem_cons_self ..)
        have hop : ops[p]? = some (ops[p]'((mem_rest hd.size).1 hpr).1) := Array.getElem?_eq_getElem _
        have hpc : p ≠ c := fun e => by rw [e, hM'.not] at hp2; cases hp2
        have hfr := (ok.ok.free p i _ oi hop hoi hplt hpc hic).resolve_left (ndi p hpr)
        refine ⟨ok.nw hoi (.inr (ndi p hpr)), _, hop, ok.ok.ns _ _ hop, hfr.1, hfr.2, ok.nw hop (.inl (Nat.le_of_lt hplt)), ok.nw hop (.inl (Nat.le_refl _)), fun j hj => ?_⟩
        rcases List.mem_append.1 hj with hj | hj
        · exact ok.nw hop (.inl (Nat.le_of_lt (hs4 p hp1 j (List.mem_cons_of_mem _ (List.mem_filter.1 hj).1))))
        rcases List.mem_cons.1 hj with rfl | hj
        · refine ok.nw hop (.inr fun hdep => ?_)
          have := hM'.down hd' hdep (.inl hp2) hc' (unl' p (.inl hp1))
          rw [hM'.not] at this; cases this
        · obtain ⟨hj1, hj2⟩ := List.mem_filter.1 hj
          refine ok.nw hop (.inr fun hdep => ?_)
          have := hM'.down hd' hdep (.inl hp2) (unl' j (List.mem_append.1 hj1)) (unl' p (.inl hp1))
          rw [this] at hj2; simp at hj2
      have hstar : Closed ops (listed.setIfInBounds i true) c (fun j => @decide (Dep ops j c) (Classical.propDecidable _)) := by
        classical
        refine ⟨?_, fun j o ho hj hlj e he hb => .inr ?_⟩
        · rw [decide_eq_false_iff_not]; intro hdep; have := dep_lt ok.ok hdep; omega
        · rw [decide_eq_true_iff]
          have h1 : Dep ops e.on j := .one ho he hb rfl
          rcases hj with hj | rfl
          · rw [decide_eq_true_iff] at hj
            exact .step h1 hj
          · exact h1
      haveI : Nonempty {M' // Closed ops (listed.setIfInBounds i true) c M'} := ⟨⟨_, hstar⟩⟩
      have hside : sideIf ops oi a := by
        refine side_now hR hoi (fun j hj => ?_) (hone _ hstar)
        rcases List.mem_cons.1 hj with rfl | hj
        · exact ok.nw hoi (.inl (Nat.le_refl _))
        · refine ok.nw hoi (.inr fun hdep => ?_)
          have hjr : j ∈ rest ops listed := by
            have hsub : ∀ x ∈ rest ops (listed.setIfInBounds i true), x ∈ rest ops listed := fun x hx => by
              rw [rest_filter hd.size] at hx; exact (List.mem_filter.1 hx).1
            unfold cutL at hj
            rcases List.mem_append.1 hj with hj | hj
            · exact hsub j (List.mem_filter.1 hj).1
            rcases List.mem_cons.1 hj with rfl | hj
            · exact hcm
            · exact hsub j (List.mem_filter.1 hj).1
          have := hready j hdep
          rw [((mem_rest hd.size).1 hjr).2] at this; cases this
      have hall' := wpOp_all (P := P) (R := R) hoi ((ok.kind i oi hoi hic).resolve_left hcd) (ι := {M' // Closed ops (listed.setIfInBounds i true) c M'}) (K := fun x => wpOps P ops (OnlyNormal R) (cutL x.1 c (rest ops (listed.setIfInBounds i true)))) hside (fun x => by
        have := hone x.1 x.2
        rw [wpOps_cons] at this
        exact this)
      refine wpOp_mono (fun a w h3 => ?_) (wpOp_weaken hall')
      exact any_of_cuts ok hR hQ fuel _ hd' hc' hlen a w (fun M hM => h3 ⟨M, hM⟩)

/-- 'move', the operations that are passed in whatever order. -/
theorem move2 (hR : ∀ a w, R a w → ∀ (j : Nat) o, ops[j]? = some o → sideIf ops o a) {i : Nat} {oi : Oper} (hi : ops[i]? = some oi) (nsi : notSelect oi = true) (post : List Nat)
    (hpost : ∀ j ∈ post, noWrite ops j oi) (hself : noWrite ops i oi) : ∀ (pre : List Nat),
    (∀ p ∈ pre, noWrite ops p oi ∧ ∃ op, ops[p]? = some op ∧ notSelect op = true ∧ op.apart ops oi = true ∧ compat P op oi = true ∧ noWrite ops i op ∧ noWrite ops p op ∧ ∀ j ∈ post, noWrite ops j op) →
    pre.Pairwise (fun p q => ∀ op, ops[p]? = some op → noWrite ops q op) →
    ∀ (a : Act) (w : World), wpOps P ops (OnlyNormal R) (pre ++ i :: post) a w → wpOps P ops (OnlyNormal R) (i :: (pre ++ post)) a w
  | [], _, _, a, w, h => h
  | p :: pre, hp, hs, a, w, h => by
    obtain ⟨hpi, op, hop, nsp, hap, hc, hip, hpp, hpost'⟩ := hp p (List.mem_cons_self ..)
    rw [List.pairwise_cons] at hs
    have hlater : ∀ j ∈ p :: (pre ++ i :: post), noWrite ops j op := by
      intro j hj
      rcases List.mem_cons.1 hj with rfl | hj
      · exact hpp
      rcases List.mem_append.1 hj with hj | hj
      · exact hs.1 j hj op hop
      rcases List.mem_cons.1 hj with rfl | hj
      · exact hip
      · exact hpost' j hj
    have hlateri : ∀ j ∈ p :: (pre ++ i :: post), noWrite ops j oi := by
      intro j hj
      rcases List.mem_cons.1 hj with rfl | hj
      · exact hpi
      rcases List.mem_append.1 hj with hj | hj
      · exact (hp j (List.mem_cons_of_mem _ hj)).1
      rcases List.mem_cons.1 hj with rfl | hj
      · exact hself
      · exact hpost j hj
    rw [List.cons_append] at h
    have sp := side_now hR hop hlater h
    have si := side_now hR hi hlateri h
    rw [wpOps_cons] at h
    have h2 := wpOp_mono (fun a w => move2 hR hi nsi post hpost hself pre (fun q hq => hp q (List.mem_cons_of_mem _ hq)) hs.2 a w) h
    have h3 : wpOp P ops (OnlyNormal R) p (wpOp P ops (OnlyNormal R) i (wpOps P ops (OnlyNormal R) (pre ++ post))) a w := wpOp_mono (fun a w h => by rw [wpOps_cons] at h; exact h) h2
    have h4 := swap hop hi nsp nsi hap hc sp si h3
    rw [wpOps_cons]
    exact wpOp_mono (fun a w h => by rw [List.cons_append, wpOps_cons]; exact h) h4

theorem wpOps_tail {l l' : List Nat} (h : ∀ a w, wpOps P ops (OnlyNormal R) l a w → wpOps P ops (OnlyNormal R) l' a w) : ∀ (F : List Nat) (a : Act) (w : World), wpOps P ops (OnlyNormal R) (F ++ l) a w → wpOps P ops (OnlyNormal R) (F ++ l') a w
  | [], a, w, hl => h a w hl
  | i :: F, a, w, hl => by
    rw [List.cons_append, wpOps_cons] at hl ⊢
    exact wpOp_mono (fun a w hl => wpOps_tail h F a w hl) hl

/-- A set that stands ahead of the call, told without the listing. -/
structure Ahead (ops : Array Oper) (c : Nat) (A : Nat → Bool) : Prop where
  cl : ∀ p j, A p = true → A j = false → ¬ Dep ops j p
  notc : ∀ p, A p = true → ¬ Dep ops c p
  dep : ∀ j, A j = false → ¬ Dep ops j c
  not : A c = false

theorem cut_add (ok : CallOk P ops c) (hR : ∀ a w, R a w → ∀ (j : Nat) o, ops[j]? = some o → sideIf ops o a) {A : Nat → Bool} (hA : Ahead ops c A) {t : Nat} {ot : Oper} (ht : ops[t]? = some ot)
    (hpure : clsOf P ot = .pure) (htc : t ≠ c) (htA : A t = false) (h1 : ∀ j, A j = true → t < j → ¬ Dep ops t j) (h3 : ∀ j, A j = false → j < t → j ≠ c → ¬ Dep ops j t) (hct : ¬ Dep ops c t)
    (a : Act) (w : World) (h : wpOps P ops (OnlyNormal R) (cutL A c (List.range ops.size)) a w) : wpOps P ops (OnlyNormal R) (cutL (fun j => A j || j == t) c (List.range ops.size)) a w := by
  have htl := (Array.getElem?_eq_some_iff.1 ht).1
  have h2 : ¬ Dep ops t c := hA.dep t htA
  obtain ⟨r1, r2, e⟩ := List.append_of_mem (List.mem_range.2 htl)
  have hs := List.pairwise_lt_range (n := ops.size)
  have hb : ∀ x ∈ List.range ops.size, x < ops.size := fun x hx => List.mem_range.1 hx
  rw [e] at hs hb
  rw [List.pairwise_append, List.pairwise_cons] at hs
  obtain ⟨s1, ⟨s2, s3⟩, s4⟩ := hs
  have lt1 : ∀ x ∈ r1, x < t := fun x hx => s4 x hx t (List.mem_cons_self ..)
  have e1 : cutL A c (List.range ops.size) = r1.filter (fun j => A j) ++ ((r2.filter (fun j => A j) ++ c :: r1.filter (fun j => !A j && j != c)) ++ t :: r2.filter (fun j => !A j && j != c)) := by
    unfold cutL
    rw [e, List.filter_append, List.filter_cons, List.filter_append, List.filter_cons]
    have : (t != c) = true := by simpa using htc
    simp [htA, this]
  have e2 : cutL (fun j => A j || j == t) c (List.range ops.size) = r1.filter (fun j => A j) ++ (t :: ((r2.filter (fun j => A j) ++ c :: r1.filter (fun j => !A j && j != c)) ++ r2.filter (fun j => !A j && j != c))) := by
    have g1 : r1.filter (fun j => A j || j == t) = r1.filter (fun j => A j) := by
      apply List.filter_congr; intro x hx; rw [show (x == t) = false by have := lt1 x hx; simp; omega, Bool.or_false]
    have g2 : r2.filter (fun j => A j || j == t) = r2.filter (fun j => A j) := by
      apply List.filter_congr; intro x hx; rw [show (x == t) = false by have := s2 x hx; simp; omega, Bool.or_false]
    have g3 : r1.filter (fun j => !(A j || j == t) && j != c) = r1.filter (fun j => !A j && j != c) := by
      apply List.filter_congr; intro x hx; rw [show (x == t) = false by have := lt1 x hx; simp; omega, Bool.or_false]
    have g4 : r2.filter (fun j => !(A j || j == t) && j != c) = r2.filter (fun j => !A j && j != c) := by
      apply List.filter_congr; intro x hx; rw [show (x == t) = false by have := s2 x hx; simp; omega, Bool.or_false]
    unfold cutL
    rw [e, List.filter_append, List.filter_cons, List.filter_append, List.filter_cons, g1, g2, g3, g4]
    simp
  rw [e1] at h
  rw [e2]
  refine wpOps_tail (fun a w h => ?_) _ a w h
  have some_of : ∀ x, x ∈ r1 ∨ x ∈ r2 → ∃ o, ops[x]? = some o := fun x hx => ⟨_, Array.getElem?_eq_getElem (hb x (hx.elim (List.mem_append_left _) (fun h => List.mem_append_right _ (List.mem_cons_of_mem _ h))))⟩
  have hcs : ∃ o, ops[c]? = some o := ⟨_, Array.getElem?_eq_getElem ok.lt⟩
  have inF : ∀ x, x ∈ r2.filter (fun j => A j) → x ∈ r2 ∧ A x = true := fun x hx => List.mem_filter.1 hx
  have inS1 : ∀ x, x ∈ r1.filter (fun j => !A j && j != c) → x ∈ r1 ∧ A x = false ∧ x ≠ c := fun x hx => by
    obtain ⟨h1, h2⟩ := List.mem_filter.1 hx; simp at h2; exact ⟨h1, h2.1, h2.2⟩
  have inS2 : ∀ x, x ∈ r2.filter (fun j => !A j && j != c) → x ∈ r2 ∧ A x = false ∧ x ≠ c := fun x hx => by
    obtain ⟨h1, h2⟩ := List.mem_filter.1 hx; simp at h2; exact ⟨h1, h2.1, h2.2⟩
  refine move2 hR ht (ok.ok.ns _ _ ht) _ (fun j hj => ok.nw ht (.inl (Nat.le_of_lt (s2 j (inS2 j hj).1)))) (ok.nw ht (.inl (Nat.le_refl _))) _ (fun p hp => ?_) ?_ a w h
  · have hcomp : ∀ op, compat P op ot = true := fun op => by unfold compat; rw [hpure]; simp
    rcases List.mem_append.1 hp with hp | hp
    · obtain ⟨hp1, hp2⟩ := inF p hp
      have hlt := s2 p hp1
      obtain ⟨op, hop⟩ := some_of p (.inr hp1)
      have hpc : p ≠ c := fun e => by rw [e, hA.not] at hp2; cases hp2
      refine ⟨ok.nw ht (.inl (Nat.le_of_lt hlt)), op, hop, ok.ok.ns _ _ hop, (ok.sym t p ot op ht hop hlt htc hpc).resolve_left (h1 p hp2 hlt), hcomp op, ok.nw hop (.inr (h1 p hp2 hlt)), ok.nw hop (.inl (Nat.le_refl _)), fun j hj => ok.nw hop (.inr (hA.cl p j hp2 (inS2 j hj).2.1))⟩
    rcases List.mem_cons.1 hp with rfl | hp
    · obtain ⟨op, hop⟩ := hcs
      have hap := ((ok.apartc t ot op ht hop htc).resolve_left h2).resolve_left hct
      exact ⟨ok.nw ht (.inr hct), op, hop, ok.ok.ns _ _ hop, hap.2, hcomp op, ok.nw hop (.inr h2), ok.nw hop (.inl (Nat.le_refl _)), fun j hj => ok.nw hop (.inr (hA.dep j (inS2 j hj).2.1))⟩
    · obtain ⟨hp1, hp2, hpc⟩ := inS1 p hp
      have hlt := lt1 p hp1
      obtain ⟨op, hop⟩ := some_of p (.inl hp1)
      have hf := (ok.ok.free p t op ot hop ht hlt hpc htc).resolve_left (h3 p hp2 hlt hpc)
      exact ⟨ok.nw ht (.inr (h3 p hp2 hlt hpc)), op, hop, ok.ok.ns _ _ hop, hf.1, hcomp op, ok.nw hop (.inl (Nat.le_of_lt hlt)), ok.nw hop (.inl (Nat.le_refl _)), fun j hj => ok.nw hop (.inl (by have := s2 j (inS2 j hj).1; omega))⟩
  · rw [List.pairwise_append, List.pairwise_cons]
    refine ⟨?_, ⟨fun q hq op hop => ok.nw hop (.inr (hA.dep q (inS1 q hq).2.1)), ?_⟩, fun p hp q hq op hop => ?_⟩
    · exact (List.Pairwise.filter _ s3).imp fun h op hop => ok.nw hop (.inl (Nat.le_of_lt h))
    · exact (List.Pairwise.filter _ s1).imp fun h op hop => ok.nw hop (.inl (Nat.le_of_lt h))
    · rcases List.mem_cons.1 hq with rfl | hq
      · exact ok.nw hop (.inr (hA.notc p (inF p hp).2))
      · exact ok.nw hop (.inr (hA.cl p q (inF p hp).2 (inS1 q hq).2.1))

/-- The operations that must come ahead of the call and of those of N. -/
def m0 (bits : List Nat) (c : Nat) (N : List Nat) (j : Nat) : Bool := Nat.testBit (bits.getD c 0) j || N.any fun x => x == j || Nat.testBit (bits.getD x 0) j
def subs : List Nat → List (List Nat)
  | [] => [[]]
  | x :: xs => subs xs ++ (subs xs).map (x :: ·)
theorem mem_subs (M : Nat → Bool) : ∀ l : List Nat, l.filter (fun j => M j) ∈ subs l
  | [] => by simp [subs]
  | x :: xs => by
    have := mem_subs M xs
    unfold subs
    rw [List.filter_cons]
    split
    · exact List.mem_append_right _ (List.mem_map_of_mem this)
    · exact List.mem_append_left _ this

def closedB (l : List Oper) (c : Nat) (A : Nat → Bool) : Bool :=
  !A c && (List.range l.length).all fun p => !(A p || p == c) || match l.toArray[p]? with
    | none => true
    | some o => o.after.toList.all fun e => !Region.binds .any e || A e.on

/-- One call of a function (operation c), and FN: the operations that read or make memory and do not hang on the call. -/
def callB (P : Program) (l : List Oper) (c : Nat) (FN : List Nat) : Bool :=
  let ops := l.toArray
  let bits := bitsAll l []
  canonC P l c && decide (c < l.length) &&
  ((List.range l.length).all fun j => j == c || match ops[j]?, ops[c]? with
    | some oj, some oc => (Nat.testBit (bits.getD c 0) j || Nat.testBit (bits.getD j 0) c || (oj.apart ops oc && oc.apart ops oj)) &&
      (Nat.testBit (bits.getD j 0) c || clsOf P oj != .heavy) && (Nat.testBit (bits.getD j 0) c || clsOf P oj == .pure || FN.contains j)
    | _, _ => true) &&
  ((List.range l.length).all fun i => (List.range i).all fun p => p == c || i == c || match ops[p]?, ops[i]? with
    | some op, some oi => Nat.testBit (bits.getD i 0) p || oi.apart ops op
    | _, _ => true) &&
  (subs FN).all fun N => closedB l c (m0 bits c N)

theorem dep_bits {l : List Oper} {k i : Nat} (h : Nat.testBit ((bitsAll l []).getD k 0) i = true) : Dep l.toArray i k :=
  bitsAll_spec (ops := l.toArray) l [] (fun k => by simp) (fun k i h => by simp at h) k i h

theorem closedB_spec {l : List Oper} {c : Nat} {A : Nat → Bool} (hc : c < l.length) (h : closedB l c A = true) : A c = false ∧ ∀ i j, Dep l.toArray i j → (A j = true ∨ j = c) → A i = true := by
  unfold closedB at h
  rw [Bool.and_eq_true] at h
  refine ⟨by simpa using h.1, fun i j hd => ?_⟩
  have one : ∀ (j : Nat) o, l.toArray[j]? = some o → (A j = true ∨ j = c) → ∀ e ∈ o.after, Region.binds .any e = true → A e.on = true := by
    intro j o ho hj e he hb
    have hlt : j < l.length := by have := (Array.getElem?_eq_some_iff.1 ho).1; simpa using this
    have := List.all_eq_true.1 h.2 j (List.mem_range.2 hlt)
    rw [ho] at this
    have hj' : (A j || j == c) = true := by rcases hj with hj | hj <;> simp [hj]
    simp only [hj', Bool.not_true, Bool.false_or] at this
    have := List.all_eq_true.1 this e (by simpa using he)
    simpa [hb] using this
  induction hd with
  | one ho he hb hi => intro hj; subst hi; exact one _ _ ho hj _ he hb
  | step h1 h2 ih1 ih2 => intro hj; exact ih1 (.inl (ih2 hj))

theorem callB_ok {l : List Oper} {FN : List Nat} (h : callB P l c FN = true) : CallOk P l.toArray c ∧ (∀ j oj, l.toArray[j]? = some oj → j ≠ c → Dep l.toArray c j ∨ clsOf P oj = .pure ∨ j ∈ FN) ∧ ∀ N ∈ subs FN, closedB l c (m0 (bitsAll l []) c N) = true := by
  unfold callB at h
  simp only [Bool.and_eq_true] at h
  obtain ⟨⟨⟨⟨h1, h2⟩, h3⟩, h4⟩, h5⟩ := h
  have hc : c < l.length := by simpa using h2
  have lt : ∀ (i : Nat) o, l.toArray[i]? = some o → i < l.length := fun i o ho => by have := (Array.getElem?_eq_some_iff.1 ho).1; simpa using this
  obtain ⟨oc, hoc⟩ : ∃ o, l.toArray[c]? = some o := ⟨l.toArray[c]'(by simpa using hc), Array.getElem?_eq_getElem (by simpa using hc)⟩
  have key : ∀ j oj, l.toArray[j]? = some oj → j ≠ c → (Dep l.toArray j c ∨ Dep l.toArray c j ∨ (oj.apart l.toArray oc = true ∧ oc.apart l.toArray oj = true)) ∧ (Dep l.toArray c j ∨ clsOf P oj ≠ .heavy) ∧ (Dep l.toArray c j ∨ clsOf P oj = .pure ∨ j ∈ FN) := by
    intro j oj hoj hjc
    have := List.all_eq_true.1 h3 j (List.mem_range.2 (lt j oj hoj))
    simp only [hoj, hoc, Bool.or_eq_true, Bool.and_eq_true] at this
    rcases this with hx | ⟨⟨hx, hy⟩, hz⟩
    · exact absurd (by simpa using hx) hjc
    · refine ⟨?_, ?_, ?_⟩
      · rcases hx with (hx | hx) | hx
        · exact .inl (dep_bits hx)
        · exact .inr (.inl (dep_bits hx))
        · exact .inr (.inr hx)
      · rcases hy with hy | hy
        · exact .inl (dep_bits hy)
        · exact .inr (by simpa using hy)
      · rcases hz with (hz | hz) | hz
        · exact .inl (dep_bits hz)
        · exact .inr (.inl (by simpa using hz))
        · exact .inr (.inr (by simpa using hz))
  refine ⟨⟨canonB_ok h1, by simpa using hc, fun j oj oc' hoj hoc' hjc => ?_, fun j oj hoj hjc => (key j oj hoj hjc).2.1, fun p i op oi hop hoi hlt hpc hic => ?_⟩, fun j oj hoj hjc => (key j oj hoj hjc).2.2, fun N hN => List.all_eq_true.1 h5 N hN⟩
  · rw [hoc] at hoc'; cases hoc'
    exact (key j oj hoj hjc).1
  · have := List.all_eq_true.1 (List.all_eq_true.1 h4 i (List.mem_range.2 (lt i oi hoi))) p (List.mem_range.2 hlt)
    simp only [hop, hoi, Bool.or_eq_true] at this
    rcases this with (hx | hx) | hx | hx
    · exact absurd (by simpa using hx) hpc
    · exact absurd (by simpa using hx) hic
    · exact .inl (dep_bits hx)
    · exact .inr hx

theorem cuts_enough {l : List Oper} {FN : List Nat} (hcall : callB P l c FN = true) (hR : ∀ a w, R a w → ∀ (j : Nat) o, l.toArray[j]? = some o → sideIf l.toArray o a) {a : Act} {w : World}
    (h : ∀ N ∈ subs FN, wpOps P l.toArray (OnlyNormal R) (cutL (m0 (bitsAll l []) c N) c (List.range l.toArray.size)) a w) {listed : Array Bool} (hno : ∀ j, listed.getD j false = false) (hd : Down l.toArray listed)
    {M : Nat → Bool} (hM : Closed l.toArray listed c M) : wpOps P l.toArray (OnlyNormal R) (cutL M c (List.range l.toArray.size)) a w := by
  obtain ⟨ok, hFN, hcl⟩ := callB_ok hcall
  have hclt : c < l.length := by simpa using ok.lt
  obtain ⟨n1, n2⟩ := closedB_spec hclt (hcl _ (mem_subs M FN))
  have h0 := h _ (mem_subs M FN)
  have hmem : ∀ x, x ∈ FN.filter (fun j => M j) → M x = true := fun x hx => (List.mem_filter.1 hx).2
  have hfn : ∀ t, t ∈ FN → M t = true → m0 (bitsAll l []) c (FN.filter fun j => M j) t = true := fun t ht hMt => by
    unfold m0
    rw [Bool.or_eq_true]
    refine .inr (List.any_eq_true.2 ⟨t, List.mem_filter.2 ⟨ht, hMt⟩, by simp⟩)
  have hsub : ∀ j, m0 (bitsAll l []) c (FN.filter fun j => M j) j = true → M j = true := by
    intro j hj
    unfold m0 at hj
    rw [Bool.or_eq_true] at hj
    rcases hj with hj | hj
    · exact hM.down hd (dep_bits hj) (.inr rfl) (hno j) (hno c)
    · obtain ⟨x, hx, hj⟩ := List.any_eq_true.1 hj
      rw [Bool.or_eq_true] at hj
      rcases hj with hj | hj
      · have : x = j := by simpa using hj
        exact this ▸ hmem x hx
      · exact hM.down hd (dep_bits hj) (.inl (hmem x hx)) (hno j) (hno x)
  generalize m0 (bitsAll l []) c (FN.filter fun j => M j) = A0 at *
  have hMd : ∀ i j, Dep l.toArray i j → M j = true → M i = true := fun i j hdep hj => hM.down hd hdep (.inl hj) (hno i) (hno j)
  have step : ∀ t, t ≤ l.toArray.size → wpOps P l.toArray (OnlyNormal R) (cutL (fun j => A0 j || (M j && decide (j < t))) c (List.range l.toArray.size)) a w := by
    intro t
    induction t with
    | zero =>
      intro _
      have : (fun j => A0 j || (M j && decide (j < 0))) = A0 := by funext j; simp
      rw [this]; exact h0
    | succ t ih =>
      intro ht
      have iht := ih (by omega)
      by_cases hadd : M t = true ∧ A0 t = false
      · obtain ⟨hMt, hA0t⟩ := hadd
        have hot : l.toArray[t]? = some (l.toArray[t]'(by omega)) := Array.getElem?_eq_getElem _
        have htc : t ≠ c := fun e => by rw [e, hM.not] at hMt; cases hMt
        have hct : ¬ Dep l.toArray c t := fun hdep => by have := hMd c t hdep hMt; rw [hM.not] at this; cases this
        have hpure : clsOf P (l.toArray[t]'(by omega)) = .pure := by
          rcases hFN t _ hot htc with h1 | h1 | h1
          · exact absurd h1 hct
          · exact h1
          · have := hfn t h1 hMt; rw [hA0t] at this; cases this
        have hA : Ahead l.toArray c (fun j => A0 j || (M j && decide (j < t))) := by
          refine ⟨fun p j hp hj hdep => ?_, fun p hp hdep => ?_, fun j hj hdep => ?_, ?_⟩
          · simp only [Bool.or_eq_true, Bool.and_eq_true, decide_eq_true_eq, Bool.or_eq_false_iff, Bool.and_eq_false_iff, decide_eq_false_iff_not] at hp hj
            rcases hp with hp | ⟨hp1, hp2⟩
            · have := n2 j p hdep (.inl hp); rw [hj.1] at this; cases this
            · have h1 := hMd j p hdep hp1
              have h2 := dep_lt ok.ok hdep
              rcases hj.2 with h3 | h3
              · rw [h1] at h3; cases h3
              · omega
          · have hMp : M p = true := by
              simp only [Bool.or_eq_true, Bool.and_eq_true] at hp
              rcases hp with hp | hp
              · exact hsub p hp
              · exact hp.1
            have := hMd c p hdep hMp; rw [hM.not] at this; cases this
          · have h1 := n2 j c hdep (.inr rfl)
            simp only [h1, Bool.true_or] at hj; cases hj
          · rw [n1, hM.not]; simp
        have := cut_add ok hR hA hot hpure htc (by rw [hA0t]; simp) (fun j hj hlt hdep => ?_) (fun j hj hlt hjc hdep => ?_) hct a w iht
        · have e : (fun j => A0 j || (M j && decide (j < t + 1))) = (fun j => (A0 j || (M j && decide (j < t))) || j == t) := by
            funext j
            by_cases hjt : j = t
            · subst hjt; simp [hMt]
            · have : decide (j < t + 1) = decide (j < t) := by rw [decide_eq_decide]; omega
              rw [this]; simp [hjt]
          rw [e]; exact this
        · simp only [Bool.or_eq_true, Bool.and_eq_true, decide_eq_true_eq] at hj
          rcases hj with hj | ⟨_, hj⟩
          · have := n2 t j hdep (.inl hj); rw [hA0t] at this; cases this
          · omega
        · have h1 := hMd j t hdep hMt
          simp only [Bool.or_eq_false_iff, Bool.and_eq_false_iff, decide_eq_false_iff_not] at hj
          rcases hj.2 with h3 | h3
          · rw [h1] at h3; cases h3
          · omega
      · have e : (fun j => A0 j || (M j && decide (j < t + 1))) = (fun j => A0 j || (M j && decide (j < t))) := by
          funext j
          by_cases hjt : j = t
          · subst hjt
            cases hMj : M j with
            | false => simp
            | true =>
              have : A0 j = true := by
                cases hA : A0 j with
                | true => rfl
                | false => exact absurd ⟨hMj, hA⟩ hadd
              simp [this]
          · have : decide (j < t + 1) = decide (j < t) := by rw [decide_eq_decide]; omega
            rw [this]
        rw [e]; exact iht
  have hend := step l.toArray.size (Nat.le_refl _)
  have e : cutL (fun j => A0 j || (M j && decide (j < l.toArray.size))) c (List.range l.toArray.size) = cutL M c (List.range l.toArray.size) := by
    have hx : ∀ x ∈ List.range l.toArray.size, (A0 x || (M x && decide (x < l.toArray.size))) = M x := by
      intro x hx
      have hlt := List.mem_range.1 hx
      cases hMx : M x with
      | true => rw [decide_eq_true hlt]; simp
      | false =>
        cases hA : A0 x with
        | false => simp
        | true => have := hsub x hA; rw [hMx] at this; cases this
    have f1 : (List.range l.toArray.size).filter (fun j => A0 j || (M j && decide (j < l.toArray.size))) = (List.range l.toArray.size).filter (fun j => M j) := List.filter_congr hx
    have f2 : (List.range l.toArray.size).filter (fun j => !(A0 j || (M j && decide (j < l.toArray.size))) && j != c) = (List.range l.toArray.size).filter (fun j => !M j && j != c) :=
      List.filter_congr (fun x hx' => by rw [hx x hx'])
    unfold cutL
    rw [f1, f2]
  rw [e] at hend
  exact hend

theorem wpOps_list {Q : Exit → Act → World → Prop} : ∀ (js : List Nat), wpOps P ops Q js = wpList P ops Q (js.filterMap fun j => ops[j]?)
  | [] => by funext a w; simp [wpOps, wpList]
  | j :: js => by
    funext a w
    cases h : ops[j]? with
    | none => simp only [wpOps, h, List.filterMap_cons]; rw [wpOps_list js]
    | some o => simp only [wpOps, h, List.filterMap_cons, wpList, wpOps_list js]

/-- The orders in which a region with one call (operation c) is to be walked. -/
def ordersOf (l : List Oper) (c : Nat) (FN : List Nat) : List (List Nat) := (subs FN).map fun N => cutL (m0 (bitsAll l []) c N) c (List.range l.length)
def AllL (f : List Nat → Prop) : List (List Nat) → Prop
  | [] => True
  | x :: xs => f x ∧ AllL f xs
theorem AllL.mem {f : List Nat → Prop} : ∀ {l : List (List Nat)}, AllL f l → ∀ x ∈ l, f x
  | [], _, x, hx => by cases hx
  | y :: l, h, x, hx => by
    rcases List.mem_cons.1 hx with rfl | hx
    · exact h.1
    · exact h.2.mem x hx

/-- The order written out, with no 'match' (whose arms bear marks that the walk stumbles over): 'simp only [fm_cons, List.filterMap_nil, List.getElem?_toArray, List.getElem?_cons_zero, List.getElem?_cons_succ, Option.elim_some]'. -/
theorem fm_cons {α β : Type} (f : α → Option β) (a : α) (l : List α) : (a :: l).filterMap f = (f a).elim (l.filterMap f) (fun b => b :: l.filterMap f) := by
  cases h : f a <;> simp [h, Option.elim]
/-- A REGION THAT DRAWS ITS ORDER AND HOLDS ONE CALL: walked once for each place that the draw can give the call. 'Ls': the orders, written out (each once). -/
theorem wp_canon_call {l : List Oper} {Q : Exit → Act → World → Prop} {a : Act} {w : World} {id : Nat} (c : Nat) (FN : List Nat) (Ls : List (List Nat)) (hm : P.follows .mixedOrders = true) (hc : callB P l c FN = true)
    (hL : ((ordersOf l c FN).all fun x => Ls.contains x) = true)
    (h : AllL (fun js => wpList P l.toArray (OnlyNormal fun a w => sideB l a = true ∧ Q .normal a w) (js.filterMap fun j => l.toArray[j]?) a w.drew) Ls) : (Code.region id l.toArray true).wp P Q a w := by
  obtain ⟨ok, _, _⟩ := callB_ok hc
  have hR : ∀ a w, (sideB l a = true ∧ Q .normal a w) → ∀ (j : Nat) o, l.toArray[j]? = some o → sideIf l.toArray o a := by
    intro a w hr j o ho hw
    have h1 := List.all_eq_true.1 hr.1 o (by
      obtain ⟨hlt, e⟩ := (Array.getElem?_eq_some_iff.1 ho)
      subst e
      simp)
    rw [hw] at h1
    simpa using h1
  have hno : ∀ j, (Array.replicate l.toArray.size false).getD j false = false := by
    intro j
    simp only [Array.getD_eq_getD_getElem?, Array.getElem?_replicate]
    split <;> rfl
  have hd : Down l.toArray (Array.replicate l.toArray.size false) := ⟨by simp, fun j o ho hl => by rw [hno] at hl; cases hl⟩
  refine wp_region_any hm ?_
  have hdrew : ({ w with drawn := w.drawn + 1 } : World) = w.drew := rfl
  rw [hdrew]
  have hrest : rest l.toArray (Array.replicate l.toArray.size false) = List.range l.toArray.size := by
    unfold rest
    rw [List.filter_eq_self.2]
    intro i hi
    have := List.mem_range.1 hi
    simp at this
    simp [this]
  refine any_of_cuts (R := fun a w => sideB l a = true ∧ Q .normal a w) ok hR (fun a w h => h.2) _ _ hd (hno c) ?_ a _ (fun M hM => ?_)
  · rw [hrest]; simp
  · rw [hrest]
    refine cuts_enough hc hR (fun N hN => ?_) hno hd hM
    have hin : cutL (m0 (bitsAll l []) c N) c (List.range l.length) ∈ ordersOf l c FN := List.mem_map_of_mem hN
    have hin2 : cutL (m0 (bitsAll l []) c N) c (List.range l.length) ∈ Ls := by
      have := List.all_eq_true.1 hL _ hin
      simpa using this
    have := h.mem _ hin2
    rw [← wpOps_list] at this
    simpa using this
end
end Vl
