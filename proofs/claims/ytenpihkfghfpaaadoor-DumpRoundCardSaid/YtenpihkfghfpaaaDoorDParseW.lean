/- dump's parse. -/
import Derived.Test.YtenpihkfghfpaaaDoorDTItem
import Derived.Test.YtenpihkfghfpaaaDoorDCatch
import Derived.Deep.LoopGhost
namespace Go.Proofs.YtenpihkfghfpaaaDoor
open Go.RowKit Vl Go.Maps
set_option linter.unusedVariables false

theorem ItemsO.push {w w' : World} {B : Nat} {v v' : Value} {L : List Itm} {ds : List (Value × Value)} {x : Itm} {d : Value × Value} (h : ItemsO w B v L ds) (hx : ItemO w B x d.1 d.2) (hg : w.grownBy w' v.ownBlock)
    (hr : w'.ownsRow B 47 6 v' (L.length + 1) (fcells L ds ++ icell x d)) : ItemsO w' B v' (L ++ [x]) (ds ++ [d]) := by
  have hk : ∀ y rv dv, ItemO w B y rv dv → ItemO w' B y rv dv := fun y rv dv hy => hy.keep fun k cs t hk hB ht => hg.block k (lt_whole hk) (fun e => row_ne h.row hk (by rcases ht with rfl | rfl <;> decide) e.symm)
  refine ⟨by simp [h.len], ?_, ?_⟩
  · rw [fcells_snoc _ _ _ _ h.len, List.length_append]
    exact hr
  · intro i h1 h2
    by_cases hi : i < L.length
    · rw [List.getElem_append_left hi, List.getElem_append_left (by have := h.len; omega)]
      exact hk _ _ _ (h.each i hi (by have := h.len; omega))
    · have e1 : i = L.length := by simp at h1; omega
      have e2 : i = ds.length := by have := h.len; omega
      rw [List.getElem_append_right (by omega), List.getElem_append_right (by omega)]
      simp only [List.getElem_singleton]
      exact hk _ _ _ hx

/-- What parse hands back. -/
def ParsePost (l : List UInt8) (w : World) (e : Ending) (w' : World) : Prop := ∃ v, e = .returned (.tuple #[v, .bool (parseD l).isSome]) ∧ Below w.heap.size w w' ∧ ∀ L, parseD l = some L → ∃ ds, ItemsO w' w.heap.size v L ds

/-- parse's memory, on its way. -/
structure QInv (W0 wx : World) (v : Value) (l : List UInt8) (acc : List Itm) (ds : List (Value × Value)) (b : Nat) : Prop where
  c0 : wx.heap[b]? = some (.cells #[v] 22 (0, 0))
  c1 : wx.heap[b + 1]? = some (.cells #[.bool false] 4 (0, 0))
  tk : TkAt W0 wx (b + 2) l
  items : ItemsO wx b v acc ds
  base : W0.heap.size = b
theorem QInv.call {W0 wx w' : World} {v : Value} {l l' : List UInt8} {acc : List Itm} {ds : List (Value × Value)} {b : Nat} (h : QInv W0 wx v l acc ds b) (ht : TkAt W0 w' (b + 2) l') (ho : Out (b + 2) wx.heap.size wx w') : QInv W0 w' v l' acc ds b := by
  refine ⟨(ho.block b (lt_whole h.c0) (by omega)).trans h.c0, (ho.block (b + 1) (lt_whole h.c1) (by omega)).trans h.c1, ht, h.items.keep fun k cs t hk hB hT => ho.block k (lt_whole hk) (fun e => ?_), h.base⟩
  obtain ⟨a, c, h1, _⟩ := h.tk
  rw [e, h1] at hk
  simp at hk
  rcases hT with rfl | rfl | rfl <;> simp at hk
theorem QInv.drew {W0 wx : World} {v : Value} {l : List UInt8} {acc : List Itm} {ds : List (Value × Value)} {b : Nat} (h : QInv W0 wx v l acc ds b) : QInv W0 wx.drew v l acc ds b :=
  h.call ((h.tk).keep rfl (h.tk.low.drew)) ((Out.refl _ _ _).drew)
theorem QInv.panic {l0 : List UInt8} {W0 wx : World} {v : Value} {l : List UInt8} {acc : List Itm} {ds : List (Value × Value)} {b : Nat} (h : QInv W0 wx v l acc ds b) (hn : parseD l0 = none) : ParsePost l0 W0 (.returned (.tuple #[.slice none 0 0, .bool false])) (caughtW b (b + 1) wx) := by
  refine ⟨_, by rw [hn]; rfl, ?_, fun L hL => by rw [hn] at hL; cases hL⟩
  have hb := h.base
  exact h.tk.low.trans (caughtW_below (by omega) (by omega) h.tk.low.size)

theorem runsD_size (n : Nat) (all : Int) (rs : List (Int × Int)) (l : List UInt8) {y : Int × List (Int × Int) × List UInt8} (h : runsD n all rs l = some y) :
    y.2.2.length ≤ l.length ∧ y.2.1.length + y.2.2.length ≤ rs.length + l.length ∧ ∀ r ∈ y.2.1, r ∈ rs ∨ (0 ≤ r.1 ∧ r.1 < 4294967296 ∧ 0 ≤ r.2 ∧ r.2 < 4294967296) := by
  induction n generalizing all rs l with
  | zero =>
    rw [runsD] at h
    cases h
    exact ⟨Nat.le_refl _, Nat.le_refl _, fun r hr => .inl hr⟩
  | succ n ih =>
    rw [runsD] at h
    cases h1 : numB 4 l with
    | none => rw [h1] at h; cases h
    | some x1 =>
      obtain ⟨f, l1⟩ := x1
      have g1 := numB_len h1
      rw [h1] at h
      simp only at h
      cases h2 : numB 4 l1 with
      | none => rw [h2] at h; cases h
      | some x2 =>
        obtain ⟨t, l2⟩ := x2
        have g2 := numB_len h2
        rw [h2] at h
        simp only at h
        split at h
        · cases h
        · obtain ⟨i1, i2, i3⟩ := ih _ _ _ h
          rw [List.length_append] at i2
          simp only [List.length_cons, List.length_nil] at i2
          refine ⟨by omega, by omega, fun r hr => ?_⟩
          rcases i3 r hr with h3 | h3
          · rcases List.mem_append.1 h3 with h3 | h3
            · exact .inl h3
            · simp at h3
              subst h3
              exact .inr (by simp only; omega)
          · exact .inr h3
/-- What item takes. -/
theorem itemD_size {k : Nat} {l : List UInt8} {x : Itm} {m : List UInt8} (h : itemD k l = some (x, m)) : m.length ≤ l.length ∧ x.kind = k ∧ x.path.length ≤ l.length ∧ x.target.length ≤ l.length ∧ x.runs.length ≤ l.length ∧ x.data.length ≤ l.length ∧
    I64 x.size ∧ ∀ r ∈ x.runs, 0 ≤ r.1 ∧ r.1 < 4294967296 ∧ 0 ≤ r.2 ∧ r.2 < 4294967296 := by
  unfold itemD at h
  cases h1 : numB 2 l with
  | none => rw [h1] at h; cases h
  | some x1 =>
    obtain ⟨n, l1⟩ := x1
    have g1 := numB_len h1
    rw [h1] at h
    simp only at h
    cases h2 : takeB n l1 with
    | none => rw [h2] at h; cases h
    | some x2 =>
      obtain ⟨p, l2⟩ := x2
      have g2 := takeB_len h2
      rw [h2] at h
      simp only at h
      split at h
      · unfold fileD at h
        cases h3 : numB 8 l2 with
        | none => rw [h3] at h; cases h
        | some x3 =>
          obtain ⟨sz, l3⟩ := x3
          have g3 := numB_len h3
          rw [h3] at h
          simp only at h
          cases h4 : numB 4 l3 with
          | none => rw [h4] at h; cases h
          | some x4 =>
            obtain ⟨rn, l4⟩ := x4
            have g4 := numB_len h4
            rw [h4] at h
            simp only at h
            cases h5 : runsD rn 0 [] l4 with
            | none => rw [h5] at h; cases h
            | some x5 =>
              obtain ⟨all, rs, l5⟩ := x5
              have g5 := runsD_size _ _ _ _ h5
              rw [h5] at h
              simp only at h g5
              cases h6 : takeB (all * 512).toNat l5 with
              | none => rw [h6] at h; cases h
              | some x6 =>
                obtain ⟨dt, l6⟩ := x6
                have g6 := takeB_len h6
                rw [h6] at h
                simp only [Option.some.injEq, Prod.mk.injEq] at h
                obtain ⟨rfl, rfl⟩ := h
                simp only [List.length_nil] at g5
                refine ⟨by omega, rfl, by simp only; omega, by simp, by simp only; omega, by simp only; omega, ?_, fun r hr => ?_⟩
                · simp only [I64]; unfold wrapB; split <;> omega
                · exact (g5.2.2 r hr).resolve_left (by simp)
      · split at h
        · unfold textD at h
          cases h3 : numB 2 l2 with
          | none => rw [h3] at h; cases h
          | some x3 =>
            obtain ⟨tn, l3⟩ := x3
            have g3 := numB_len h3
            rw [h3] at h
            simp only at h
            cases h4 : takeB tn l3 with
            | none => rw [h4] at h; cases h
            | some x4 =>
              obtain ⟨t, l4⟩ := x4
              have g4 := takeB_len h4
              rw [h4] at h
              simp only [Option.some.injEq, Prod.mk.injEq] at h
              obtain ⟨rfl, rfl⟩ := h
              exact ⟨by omega, rfl, by simp only; omega, by simp only; omega, by simp, by simp, by simp [I64], by simp⟩
        · split at h
          · cases h
            exact ⟨by omega, rfl, by simp only; omega, by simp, by simp, by simp, by simp [I64], by simp⟩
          · cases h

theorem magic_cmp (m : List UInt8) : ((strOf m).toList == [118, 108, 109, 97, 114, 99, 104, 1]) = decide (m = magicB) := by
  rw [ByteArray.toList_eq, Bool.eq_iff_iff, beq_iff_eq, decide_eq_true_iff]
  exact Iff.rfl
theorem six_cell {a b c d e f : Value} (ha : a.oneCell' = true) (hb : b.oneCell' = true) (hc : c.oneCell' = true) (hd : d.oneCell' = true) (he : e.oneCell' = true) (hf : f.oneCell' = true) : ∀ u ∈ [a, b, c, d, e, f], u.oneCell' = true := by
  intro u hu; simp at hu; rcases hu with rfl | rfl | rfl | rfl | rfl | rfl <;> assumption

set_option maxRecDepth 100000 in
set_option maxHeartbeats 4000000 in
theorem parse_walk (l : List UInt8) (a : Option Addr) (c : Nat) (w : World) (h : BytesAt w a l) (hl : l.length ≤ 4194304) (hc : l.length ≤ c) : Calls Tryd.prog 29 #[.slice a l.length c] w (ParsePost l w) := by
  have hmf : ∀ (fn : Fn) (first cap : Array Value) (w : World), (Instr.makeFunc fn first cap).run Tryd.prog w = .ok (.func fn first cap) w := fun _ _ _ _ => rfl
  obtain ⟨b, hb⟩ : ∃ b, b = w.heap.size := ⟨_, rfl⟩
  have HPI : Hid (QInv w (((w.alloc (.cells #[.slice none 0 0] 22)).alloc (.cells #[.bool false] 4)).alloc (.cells #[.slice a l.length c] 88)) (.slice none 0 0) l [] [] b) := by
    subst hb
    have e2 : ((w.alloc (.cells #[.slice none 0 0] 22)).alloc (.cells #[.bool false] 4)).heap.size = w.heap.size + 2 := by rw [size_alloc, size_alloc]
    refine Lib.hid ⟨alloc_whole (alloc_whole (heap_alloc_new w _)), alloc_whole ?_, ⟨a, c, ?_, h, hc, by omega, (((Below.refl _ w).alloc (Nat.le_refl _) _).alloc (by rw [size_alloc]; omega) _).alloc (by omega) _⟩, ItemsO.nil _ _, rfl⟩
    · rw [← size_alloc w (.cells #[.slice none 0 0] 22)]
      exact heap_alloc_new _ _
    · rw [← e2]
      exact heap_alloc_new _ _
  clear h
  go_enter_defers Tryd.func29, Tryd.ntmps29
  go_wp2_with fail
  generalize (((w.alloc (.cells #[.slice none 0 0] 22)).alloc (.cells #[.bool false] 4)).alloc (.cells #[.slice a l.length c] 88)) = w3 at *
  have HBE := Lib.hid hb
  rw [← hb]
  clear hb
  cases t1 : takeB 8 l with
  | none =>
    have HN := Lib.hid ((take_walk w (b + 2) l (8 : Nat) w3 HPI.out.tk (by omega)).mono fun e w' h => takePost_none t1 h)
    have HPOST := Lib.hid (HPI.out.panic (l0 := l) (by unfold parseD; rw [t1]))
    clear t1
    refine HN.out.mono ?_
    rintro e w4 ⟨rfl, rfl⟩
    unfold shortE
    go_wp2
    exact door_short rfl rfl HPI.out.c0 HPI.out.c1 (by omega) HPOST.out
  | some x1 =>
    obtain ⟨m, l1⟩ := x1
    have HN := Lib.hid ((take_walk w (b + 2) l (8 : Nat) w3 HPI.out.tk (by omega)).mono fun e w' h => takePost_some t1 h)
    have hl1 : l1.length ≤ 4194304 := by have := (takeB_len t1).1; omega
    have hml : m.length = 8 := (takeB_len t1).2.1
    refine HN.out.mono ?_
    rintro e w4 ⟨a4, rfl, hb4, ht4, ho4⟩
    have HPI4 := Lib.hid (HPI.out.call ht4 ho4)
    have hcv := bytes_conv (hb4.below ht4.low) m.length
    rw [hml] at hcv
    clear hb4 ht4 ho4 HN HPI
    have hne : b ≠ b + 1 := by omega
    by_cases hm : m = magicB
    · have hq := magic_cmp m
      rw [decide_eq_true hm] at hq
      have HPD := Lib.hid (show parseD l = (match loopD (l1.length + 1) [] l1 with | none => none | some (items, l) => match takeB 8 l with | none => none | some (_, l) => if l = [] then some items else none) by unfold parseD; rw [t1]; simp only [if_pos hm]; rfl)
      clear t1 hm
      go_wp2_with fail
      go_loopg [] (l1.length) (fun k wr => ∃ v acc ds l' F, k = l'.length ∧ l'.length < F ∧ acc.length + l'.length ≤ l1.length ∧ loopD F acc l' = loopD (l1.length + 1) [] l1 ∧ QInv w wr v l' acc ds b)
      case atStart => exact ⟨_, [], [], l1, _, rfl, Nat.lt_succ_self _, by simp, rfl, HPI4.out⟩
      case round =>
        obtain ⟨v, acc, ds, l', F, hk, hF, hacc, hloop, hqi⟩ := hrel
        obtain ⟨va, vc, rfl⟩ := row_form hqi.items.row
        have HLP := Lib.hid hloop
        have HQ := Lib.hid hqi
        clear hloop hqi
        obtain ⟨G, rfl⟩ : ∃ G, F = G + 1 := ⟨F - 1, by omega⟩
        have hl' : l'.length ≤ 4194304 := by omega
        cases f1 : numB 1 l' with
        | none =>
          have HN := Lib.hid (tnum_none (n := 1) 1 rfl (by omega) HQ.out.tk (by omega) f1)
          have HPOST := Lib.hid (HQ.out.panic (l0 := l) (by rw [HPD.out, ← HLP.out]; unfold loopD; rw [f1]))
          clear f1
          go_wp2_with fail
          refine HN.out.mono ?_
          rintro e w5 ⟨rfl, rfl⟩
          unfold shortE
          go_wp2
          exact door_short rfl rfl HQ.out.c0 HQ.out.c1 hne HPOST.out
        | some y1 =>
          obtain ⟨kd, l2⟩ := y1
          obtain ⟨hl2, hkd⟩ := numB_len f1
          have HN := Lib.hid (tnum_some (n := 1) 1 rfl (by omega) HQ.out.tk (by omega) f1)
          rw [wrapB_small (show kd < _ by omega)] at HN
          have HST := Lib.hid (show loopD (G + 1) acc l' = (if kd = 0 then some (acc, l2) else match itemD kd l2 with | none => none | some (x, l) => loopD G (acc ++ [x]) l) by rw [loopD, f1]; rfl)
          clear f1
          go_wp2_with fail
          refine HN.out.mono ?_
          rintro e w5 ⟨rfl, ht5, ho5⟩
          have HQ5 := Lib.hid (HQ.out.call ht5 ho5)
          clear ht5 ho5 HN HQ
          by_cases k0 : kd = 0
          · subst k0
            rw [if_pos rfl] at HST
            cases t8 : takeB 8 l2 with
            | none =>
              have HN := Lib.hid ((take_walk w (b + 2) l2 (8 : Nat) w5 HQ5.out.tk (by omega)).mono fun e w' h => takePost_none t8 h)
              have HPOST := Lib.hid (HQ5.out.panic (l0 := l) (by rw [HPD.out, ← HLP.out, HST.out]; simp only; rw [t8]))
              clear t8
              go_wp2_with fail
              refine HN.out.mono ?_
              rintro e w6 ⟨rfl, rfl⟩
              unfold shortE
              go_wp2
              exact door_short rfl rfl HQ5.out.c0 HQ5.out.c1 hne HPOST.out
            | some x8 =>
              obtain ⟨m8, l9⟩ := x8
              have HN := Lib.hid ((take_walk w (b + 2) l2 (8 : Nat) w5 HQ5.out.tk (by omega)).mono fun e w' h => takePost_some t8 h)
              have HPD9 := Lib.hid (show parseD l = (if l9 = [] then some acc else none) by rw [HPD.out, ← HLP.out, HST.out]; simp only; rw [t8])
              clear t8
              go_wp2_with fail
              refine HN.out.mono ?_
              rintro e w6 ⟨a6, rfl, hb6, ht6, ho6⟩
              have HQ6 := Lib.hid (HQ5.out.call ht6 ho6)
              clear hb6 ht6 ho6 HN
              obtain ⟨a9, c9, hq9, _⟩ := HQ6.out.tk
              have d0 := cell_whole hq9 0
              have f0 := frozen_whole HQ6.out.c0 0
              have c0 := cell_whole HQ6.out.c0 0
              have h1 := set_other (p := ⟨b, 0, none⟩) (v := .slice va acc.length vc) HQ6.out.c1 hne
              have f1 := frozen_whole h1 0
              have c1 := cell_whole h1 0
              simp only [List.getElem?_toArray, List.getElem?_cons_zero] at c0 c1 d0
              have H1 := Lib.hid h1
              clear h1 hq9
              go_wp2_with fail
              go_region
              go_wp2
              have hb := HBE.out
              have hsz : ((l9.length : Int) == 0) = (parseD l).isSome := by
                rw [HPD9.out]
                cases l9 with
                | nil => rfl
                | cons => simp; omega
              rw [hsz]
              refine door_idle rfl rfl (set_other (set_whole (i := 0) HQ6.out.drew.c0 _) hne.symm) (set_whole (i := 0) H1.out _) ⟨_, rfl, ?_, fun L hL => ?_⟩
              · exact (HQ6.out.drew.tk.low.setCell (by show _ ≤ b; omega) _).setCell (by show _ ≤ b + 1; omega) _
              · rw [HPD9.out] at hL
                split at hL
                · cases hL
                  rw [← hb]
                  refine ⟨ds, HQ6.out.drew.items.keep fun k cs t hk hB ht => ?_⟩
                  have e0 : k ≠ b := fun e => by
                    rw [e, HQ6.out.drew.c0] at hk
                    simp at hk
                    rcases ht with rfl | rfl | rfl <;> simp at hk
                  have e1 : k ≠ b + 1 := fun e => by
                    rw [e, HQ6.out.drew.c1] at hk
                    simp at hk
                    rcases ht with rfl | rfl | rfl <;> simp at hk
                  show ((w6.setCell ⟨b, 0, none⟩ (.slice va acc.length vc)).setCell ⟨b + 1, 0, none⟩ (.bool (parseD l).isSome)).heap[k]? = w6.heap[k]?
                  rw [Below.heap_setCell _ _ _ _ e1, Below.heap_setCell _ _ _ _ e0]
                · cases hL
          · have hk0 : ((kd : Int) == 0) = false := by rw [beq_eq_false_iff_ne]; omega
            rw [if_neg k0] at HST
            clear k0
            have c0 := cell_whole HQ5.out.c0 0
            simp only [List.getElem?_toArray, List.getElem?_cons_zero] at c0
            cases i1 : itemD kd l2 with
            | none =>
              have HN := Lib.hid ((item_walk w kd (b + 2) l2 w5.drew HQ5.out.drew.tk (by omega) (by omega)).mono fun e w' h => (show e = shortE ∧ Out (b + 2) w5.drew.heap.size w5.drew w' by unfold ItemPost at h; rw [i1] at h; exact h))
              have HPOST := Lib.hid (show parseD l = none by rw [HPD.out, ← HLP.out, HST.out, i1])
              clear i1
              go_wp2_with fail
              refine wp_canon_panic 3 [0] [[1, 2], [0, 1, 2]] (by kernel_rfl) (by kernel_rfl) (by kernel_rfl) ⟨?_, ?_, trivial⟩
              all_goals simp only [fm_cons, List.filterMap_nil, List.getElem?_toArray, List.getElem?_cons_zero, List.getElem?_cons_succ, Option.elim_some]
              all_goals
                go_wp2
                refine ⟨rfl, ?_⟩
                go_wp2_with fail
                refine HN.out.mono ?_
                rintro e w6 ⟨rfl, ho6⟩
                have q0 := (ho6.block b (lt_whole HQ5.out.drew.c0) (by omega)).trans HQ5.out.drew.c0
                have q1 := (ho6.block (b + 1) (lt_whole HQ5.out.drew.c1) (by omega)).trans HQ5.out.drew.c1
                have HB6 := Lib.hid (HQ5.out.drew.tk.low.trans (ho6.below (B' := w.heap.size) (by have := HBE.out; omega) HQ5.out.drew.tk.low.size))
                have Q0 := Lib.hid q0
                have Q1 := Lib.hid q1
                clear ho6 q0 q1
                unfold shortE
                go_wp2
                have hb := HBE.out
                refine door_short rfl rfl Q0.out Q1.out hne ⟨_, by rw [HPOST.out]; rfl, ?_, fun L hL => by rw [HPOST.out] at hL; cases hL⟩
                exact HB6.out.trans (caughtW_below (by omega) (by omega) HB6.out.size)
            | some y =>
              obtain ⟨x, l3⟩ := y
              have HN := Lib.hid ((item_walk w kd (b + 2) l2 w5.drew HQ5.out.drew.tk (by omega) (by omega)).mono fun e w' h => (show ∃ d, e = .returned (.agg (icell x d).toArray) ∧ ItemO w' w5.drew.heap.size x d.1 d.2 ∧ TkAt w w' (b + 2) l3 ∧ Out (b + 2) w5.drew.heap.size w5.drew w' by unfold ItemPost at h; rw [i1] at h; exact h))
              rw [i1] at HST
              have hl3 := (itemD_size i1).1
              clear i1
              go_wp2_with fail
              refine wp_canon_call 3 [0] [[1, 2, 3, 0, 4, 5, 6], [0, 1, 2, 3, 4, 5, 6]] (by kernel_rfl) (by kernel_rfl) (by kernel_rfl) ⟨?_, ?_, trivial⟩
              all_goals simp only [fm_cons, List.filterMap_nil, List.getElem?_toArray, List.getElem?_cons_zero, List.getElem?_cons_succ, Option.elim_some]
              all_goals
                go_wp2_with fail
                refine HN.out.mono ?_
                rintro e w6 ⟨⟨d4, d5⟩, rfl, hio, ht6, ho6⟩
                obtain ⟨ra, rc, e4⟩ := row_form hio.runs
                obtain ⟨da, dc, e5⟩ := row_form hio.data
                simp only at e4 e5
                subst e4
                subst e5
                have HIO := Lib.hid (hio.mono (B' := b) (by have := HBE.out; have := HQ5.out.drew.tk.low.size; omega))
                have HQ6 := Lib.hid (HQ5.out.drew.call ht6 ho6)
                simp only [icell]
                obtain ⟨i9, hi9, hz0, hz1, hz2⟩ := info_parts info47
                have g0 := cell_whole HQ6.out.c0 0
                simp only [List.getElem?_toArray, List.getElem?_cons_zero] at g0
                have hb6 : b ≤ w6.heap.size := by have := lt_whole HQ6.out.c0; omega
                clear hio ht6 ho6
                go_wp2_with (at_builtin; refine wpList_append_own _ rfl _ _ 22 rfl b 47 i9 _ 6 96 Tryd.underlying22 hi9 hz0 hz1 hz2 rfl (by decide) _ acc.length _ rfl (World.ownsRow.alloc HQ6.out.items.row _) ⟨w6.heap.size, 0, none⟩ 1 1 [.int .i64 x.kind, .string (strOf x.path), .string (strOf x.target), .int .i64 x.size, .slice ra x.runs.length rc, .slice da x.data.length dc] rfl rfl (new_cells _ _ _ _ rfl) (six_cell rfl rfl rfl rfl rfl rfl) (by unfold maxLen; omega) (by omega) (le_alloc hb6 _) ?_)
                intro v9 w9 h9 hg9 _
                obtain ⟨a9, d9, rfl⟩ := row_form h9
                have hb := HBE.out
                have hrow8 := World.ownsRow.alloc HQ6.out.items.row (.cells #[.int .i64 x.kind, .string (strOf x.path), .string (strOf x.target), .int .i64 x.size, .slice ra x.runs.length rc, .slice da x.data.length dc] 47)
                have q0 := alloc_whole (o' := (.cells #[.int .i64 x.kind, .string (strOf x.path), .string (strOf x.target), .int .i64 x.size, .slice ra x.runs.length rc, .slice da x.data.length dc] 47)) HQ6.out.c0
                have q1 := alloc_whole (o' := (.cells #[.int .i64 x.kind, .string (strOf x.path), .string (strOf x.target), .int .i64 x.size, .slice ra x.runs.length rc, .slice da x.data.length dc] 47)) HQ6.out.c1
                have r0 : w9.heap[b]? = some _ := (hg9.block b (lt_whole q0) (fun e => row_ne hrow8 q0 (by decide) e.symm)).trans q0
                have r1 : w9.heap[b + 1]? = some _ := (hg9.block (b + 1) (lt_whole q1) (fun e => row_ne hrow8 q1 (by decide) e.symm)).trans q1
                have HT9 := Lib.hid (((HQ6.out.tk.alloc (by omega) (.cells #[.int .i64 x.kind, .string (strOf x.path), .string (strOf x.target), .int .i64 x.size, .slice ra x.runs.length rc, .slice da x.data.length dc] 47)).grown hg9 hrow8 (by decide) (by omega) (le_alloc (by omega) _)).setCell (b := b) (i := 0) (by omega) (by omega) (.slice a9 (acc.length + 1) d9))
                have HI9 : Hid (ItemsO w9 b (.slice a9 (acc.length + 1) d9) (acc ++ [x]) (ds ++ [(.slice ra x.runs.length rc, .slice da x.data.length dc)])) :=
                  Lib.hid (ItemsO.push (HQ6.out.items.below ((Below.refl _ _).alloc (Nat.le_refl _) (.cells #[.int .i64 x.kind, .string (strOf x.path), .string (strOf x.target), .int .i64 x.size, .slice ra x.runs.length rc, .slice da x.data.length dc] 47))) (HIO.out.keep fun k cs t hk _ _ => Below.heap_alloc w6 (.cells #[.int .i64 x.kind, .string (strOf x.path), .string (strOf x.target), .int .i64 x.size, .slice ra x.runs.length rc, .slice da x.data.length dc] 47) k (lt_whole hk)) hg9 h9)
                have HI10 : Hid (ItemsO (w9.setCell ⟨b, 0, none⟩ (.slice a9 (acc.length + 1) d9)) b (.slice a9 (acc.length + 1) d9) (acc ++ [x]) (ds ++ [(.slice ra x.runs.length rc, .slice da x.data.length dc)])) :=
                  Lib.hid (HI9.out.keep fun k cs t hk hB ht => Below.heap_setCell _ _ _ _ (fun (e : k = b) => by
                    rw [e, r0] at hk
                    simp at hk
                    rcases ht with rfl | rfl | rfl <;> simp at hk))
                have HQ9 : Hid (QInv w (w9.setCell ⟨b, 0, none⟩ (.slice a9 (acc.length + 1) d9)) (.slice a9 (acc.length + 1) d9) l3 (acc ++ [x]) (ds ++ [(.slice ra x.runs.length rc, .slice da x.data.length dc)]) b) :=
                  Lib.hid ⟨(by rw [set_whole (i := 0) r0]; rfl), set_other r1 hne, HT9.out, HI10.out, hb.symm⟩
                have k0 := frozen_whole r0 0
                have k1 := cell_whole r0 0
                simp only [List.getElem?_toArray, List.getElem?_cons_zero] at k1
                clear h9 hg9 hrow8 q0 q1 r0 r1 hb
                go_wp2
                refine ⟨rfl, ?_⟩
                go_wp2
                go_roundg l3.length
                case rel => exact ⟨_, acc ++ [x], ds ++ [(.slice ra x.runs.length rc, .slice da x.data.length dc)], l3, G, rfl, by omega, by rw [List.length_append]; simp only [List.length_cons, List.length_nil]; omega, by rw [← HLP.out, HST.out], HQ9.out⟩
                case measure => omega
    · have hq := magic_cmp m
      rw [decide_eq_false hm] at hq
      have HN := Lib.hid (show parseD l = none by unfold parseD; rw [t1]; simp only [if_neg hm])
      clear t1 hm
      have f0 := frozen_whole HPI4.out.c0 0
      have c0 := cell_whole HPI4.out.c0 0
      have h1 := set_other (p := ⟨b, 0, none⟩) (v := .slice none 0 0) HPI4.out.c1 hne
      have f1 := frozen_whole h1 0
      have c1 := cell_whole h1 0
      simp only [List.getElem?_toArray, List.getElem?_cons_zero] at c0 c1
      have H1 := Lib.hid h1
      clear h1
      go_wp2
      have hb := HBE.out
      refine door_idle rfl rfl (set_other (set_whole (i := 0) HPI4.out.c0 _) hne.symm) (set_whole (i := 0) H1.out _) ⟨_, by rw [HN.out]; rfl, ?_, fun L hL => by rw [HN.out] at hL; cases hL⟩
      exact (HPI4.out.tk.low.setCell (by show _ ≤ b; omega) _).setCell (by show _ ≤ b + 1; omega) _
end Go.Proofs.YtenpihkfghfpaaaDoor
