/- dump's packer: a block of its own that holds the bytes and a count. -/
import Derived.Test.YtenpihkfghfpaaaDoorDPackR
import Derived.Laws.AppendOwnNone
import Derived.Lib.SlBytesConst
namespace Go.Proofs.YtenpihkfghfpaaaDoor
open Go.RowKit Vl
set_option linter.unusedVariables false

/-- A row of the call's own, or one that is full (of which a part may be marked). -/
def OwnX (w : World) (B : Nat) (v : Value) (n : Nat) (xs : List Value) : Prop :=
  Own w B 5 v n xs ∨ ∃ g cs fz, v = .slice (some ⟨g, 0, none⟩) n n ∧ B ≤ g ∧ w.heap[g]? = some (.cells cs 5 fz) ∧ cs.toList = xs ∧ xs.length = n
theorem OwnX.block {w : World} {B : Nat} {v : Value} {n : Nat} {xs : List Value} (h : OwnX w B v n xs) {k : Nat} (hk : v.ownBlock = some k) : B ≤ k ∧ k < w.heap.size ∧ ∃ cur fz, w.heap[k]? = some (.cells cur 5 fz) := by
  rcases h with h | ⟨g, cs, fz, rfl, hb, hg, _⟩
  · obtain ⟨h1, h2, cur, h3⟩ := h.block hk
    exact ⟨h1, h2, cur, _, h3⟩
  · simp [Value.ownBlock] at hk
    subst hk
    exact ⟨hb, lt_whole hg, cs, fz, hg⟩
theorem OwnX.alloc {w : World} {B : Nat} {v : Value} {n : Nat} {xs : List Value} (h : OwnX w B v n xs) (o : Obj) : OwnX (w.alloc o) B v n xs := by
  rcases h with h | ⟨g, cs, fz, hv, hb, hg, hx⟩
  · exact .inl (h.alloc o)
  · exact .inr ⟨g, cs, fz, hv, hb, alloc_whole hg, hx⟩
theorem OwnX.form {w : World} {B : Nat} {v : Value} {n : Nat} {xs : List Value} (h : OwnX w B v n xs) : ∃ a c, v = .slice a n c := by
  rcases h with h | ⟨g, cs, fz, hv, _⟩
  · exact h.form
  · exact ⟨_, _, hv⟩
theorem run_append_x {P : Program} (w : World) (base t ty : Nat) (i : TypeInfo) (z : Value) (ht : P.underlying t = some (.slice 5)) (hi : P.info? 5 = some i) (hz : i.zero = some z)
    (hsize : i.size = 1) (hby : i.bytes = 1) (hzs : z.cells.size = 1)
    (v : Value) (n : Nat) (xs : List Value) (hown : OwnX w base v n xs)
    (a : Addr) (m c : Nat) (news : List Value) (hl : news.length = m) (hm : 0 < m) (hnews : ∀ j u, news[j]? = some u → w.cell? (a.add j) = some u) (h1 : ∀ u ∈ news, u.oneCell' = true)
    (h63 : n + m ≤ maxLen) (hbytes : n + m ≤ 140737488355328) (hbase : base ≤ w.heap.size) :
    ∃ v' w', (Builtin.append_ #[t, t] ty #[v, .slice (some a) m c]).run P w = .ok v' w' ∧ w'.ownsRow base 5 1 v' (n + m) (xs ++ news) ∧ w.grownBy w' v.ownBlock := by
  rcases hown with hown | ⟨g, cs, fz, rfl, hb, hg, hcs, hxn⟩
  · obtain ⟨v', w', q1, q2, q3, _⟩ := run_append_own (P := P) w base t ty 5 i z 1 1 ht hi hz hsize hby hzs (by decide) v n xs hown a m c news (by omega) hnews h1 h63 (by omega) hbase
    exact ⟨v', w', q1, q2, q3⟩
  · have holds : ∀ j u, xs[j]? = some u → w.cell? ((⟨g, 0, none⟩ : Addr).add j) = some u := by
      intro j u hu
      rw [Addr.add_lit, Nat.zero_add, cell_of_row w g j cs 5 fz hg, ← hu, ← hcs]
      simp
    have hr := run_append_grow (P := P) w t ty 5 i z ht hi hz ⟨g, 0, none⟩ n n xs (by rw [hsize, hxn]; omega) holds a m c news (by rw [hsize, hl]; omega) hnews (by omega) (by simp only [maxLen] at h63; omega) (growslice_fits (by omega) (by rw [hby]; omega))
    have hge := grownCap_ge w (n + m) n 5
    have hcm : grownCap w (n + m) n 5 ≤ maxLen := grownCap_le_maxLen w (n + m) n 5 h63
    have hlen : (xs ++ news).length = (n + m) * 1 := by rw [List.length_append, hxn, hl]; omega
    refine ⟨_, _, hr, ⟨hlen, .inr ⟨w.heap.size, _, _, rfl, hbase, heap_alloc_new w.drew _, hge, hcm, ?_, ?_⟩⟩, ⟨rfl, rfl, rfl, by simp, fun k hk _ => Below.heap_alloc w.drew _ k hk⟩⟩
    · simp only [Array.size_append, List.size_toArray, size_zeroCells, hzs, hxn, hl]
      omega
    · simp only [Array.toList_append, List.append_assoc]
      rw [← List.append_assoc, ← hlen]
      exact List.take_left
theorem wpList_append_x {P : Program} {w : World} {ops : Array Oper} {rest : List Oper} {o : Oper} {a : Act} {Q : Exit → Act → World → Prop} (hgd : o.guard = none) (s x : Operand) (t : TypeId)
    (ho : o.op = .call { callee := .builtin .append, args := #[s, x], argTypes := #[t, t] })
    (base : Nat) (i : TypeInfo) (z : Value) (ht : P.underlying t = some (.slice 5)) (hi : P.info? 5 = some i) (hz : i.zero = some z)
    (hsize : i.size = 1) (hby : i.bytes = 1) (hzs : z.cells.size = 1)
    (v : Value) (n : Nat) (xs : List Value) (hs : a.eval s = v) (hown : OwnX w base v n xs)
    (ad : Addr) (m c : Nat) (news : List Value) (hx : a.eval x = .slice (some ad) m c) (hl : news.length = m) (hm : 0 < m) (hnews : ∀ j u, news[j]? = some u → w.cell? (ad.add j) = some u) (h1 : ∀ u ∈ news, u.oneCell' = true)
    (h63 : n + m ≤ maxLen) (hbytes : n + m ≤ 140737488355328) (hbase : base ≤ w.heap.size)
    (h : ∀ v' w', w'.ownsRow base 5 1 v' (n + m) (xs ++ news) → w.grownBy w' v.ownBlock → wpList P ops Q rest (a.put o.dst v') w') :
    wpList P ops Q (o :: rest) a w := by
  refine wpList_plain hgd fun K hK => ?_
  obtain ⟨v', w', hr, h2, h3⟩ := run_append_x (P := P) w base t o.type i z ht hi hz hsize hby hzs v n xs hown ad m c news hl hm hnews h1 h63 hbytes hbase
  unfold Oper.wp execOp
  simp only [ho, resolve, invoke, builtin, Sem.run_bind, Sem.run_pure, Result.andThen_ok, List.map_toArray, List.map_cons, List.map_nil, hs, hx, hr]
  exact hK _ _ (h v' w' h2 h3)

structure PkX (w : World) (B p : Nat) (n : Nat) (l : List UInt8) (v : Value) : Prop where
  blk : w.heap[p]? = some (.cells #[v, .int .i64 n] 54 (0, 0))
  own : OwnX w B v l.length (bcells l)
  base : B ≤ p
structure PkAt (w : World) (B p : Nat) (n : Nat) (l : List UInt8) (v : Value) : Prop where
  blk : w.heap[p]? = some (.cells #[v, .int .i64 n] 54 (0, 0))
  own : Own w B 5 v l.length (bcells l)
  base : B ≤ p
theorem PkAt.x {w : World} {B p n : Nat} {l : List UInt8} {v : Value} (h : PkAt w B p n l v) : PkX w B p n l v := ⟨h.blk, .inl h.own, h.base⟩
/-- Below B nothing turns; above it only rows of bytes and the packer's own block. -/
structure Pk (w w' : World) (B p : Nat) : Prop where
  low : Below B w w'
  typed : ∀ k, k ≠ p → ∀ cs t fr, w.heap[k]? = some (.cells cs t fr) → t ≠ 5 → w'.heap[k]? = w.heap[k]?
theorem Pk.refl (w : World) (B p : Nat) : Pk w w B p := ⟨Below.refl _ _, fun _ _ _ _ _ _ _ => rfl⟩
theorem Pk.trans {a b c : World} {B p : Nat} (h : Pk a b B p) (k : Pk b c B p) : Pk a c B p := by
  refine ⟨h.low.trans k.low, fun i hi cs t fr hc ht => ?_⟩
  have h1 := h.typed i hi cs t fr hc ht
  rw [k.typed i hi cs t fr (h1.trans hc) ht, h1]
theorem Pk.size {a b : World} {B p : Nat} (h : Pk a b B p) : a.heap.size ≤ b.heap.size := h.low.size
theorem Pk.alloc {a w : World} {B p : Nat} (h : Pk a w B p) (hB : B ≤ a.heap.size) (o : Obj) : Pk a (w.alloc o) B p := by
  refine ⟨h.low.alloc (Nat.le_trans hB h.size) _, fun i hi cs t fr hc ht => ?_⟩
  have h1 := h.typed i hi cs t fr hc ht
  rw [Below.heap_alloc w o i (lt_whole (h1.trans hc)), h1]
/-- One append and its store. -/
theorem pk_push {w w1 : World} {B p n : Nat} {l m : List UInt8} {v v' : Value} (hA : PkX w B p n l v) (hB : B ≤ w.heap.size)
    (h1 : w1.ownsRow B 5 1 v' (l.length + m.length) (bcells l ++ bcells m)) (hg : w.grownBy w1 v.ownBlock) :
    (w1.cell? ⟨p, 0, none⟩ = some v ∧ w1.cell? ⟨p, 1, none⟩ = some (.int .i64 n) ∧ w1.frozen? ⟨p, 0, none⟩ = false) ∧ PkAt (w1.setCell ⟨p, 0, none⟩ v') B p n (l ++ m) v' ∧ Pk w (w1.setCell ⟨p, 0, none⟩ v') B p := by
  have hne : v.ownBlock ≠ some p := fun e => by
    obtain ⟨_, _, cur, fz, hc⟩ := hA.own.block e
    rw [hA.blk] at hc
    simp at hc
  have hb1 : w1.heap[p]? = some _ := grown_whole hg hA.blk hne
  have ho : Own w1 B 5 v' (l ++ m).length (bcells (l ++ m)) := by rw [bcells_append, List.length_append]; exact h1
  have hne' : v'.ownBlock ≠ some p := fun e => by
    obtain ⟨_, _, cur, hc⟩ := ho.block e
    rw [hb1] at hc
    simp at hc
  refine ⟨⟨cell_whole hb1 0, cell_whole hb1 1, frozen_whole hb1 0⟩, ⟨by rw [set_whole (i := 0) hb1]; rfl, ?_, hA.base⟩, ⟨?_, ?_⟩⟩
  · refine ho.keep fun k hk => Below.heap_setCell _ _ _ _ (fun e => hne' ?_)
    simp only at e
    rw [hk, e]
  · exact ((Below.refl _ _).grown hg hB (fun k hk => (hA.own.block hk).1)).setCell hA.base _
  · intro k hk cs t fr hc ht
    rw [Below.heap_setCell _ _ _ _ hk]
    refine hg.block k (lt_whole hc) (fun e => ht ?_)
    obtain ⟨_, _, cur, fz, hc2⟩ := hA.own.block e.symm
    rw [hc] at hc2
    simp at hc2
    exact hc2.2.1
theorem PkX.alloc {w : World} {B p n : Nat} {l : List UInt8} {v : Value} (h : PkX w B p n l v) (o : Obj) : PkX (w.alloc o) B p n l v := ⟨alloc_whole h.blk, h.own.alloc _, h.base⟩
theorem PkAt.alloc {w : World} {B p n : Nat} {l : List UInt8} {v : Value} (h : PkAt w B p n l v) (o : Obj) : PkAt (w.alloc o) B p n l v := ⟨alloc_whole h.blk, h.own.alloc _, h.base⟩

theorem run_append_owned_none2 {P : Program} {w : World} (base : Nat) (t ty e : TypeId) (i : TypeInfo) (size c : Nat) (ht : P.underlying t = some (.slice e)) (hi : P.info? e = some i)
    (v : Value) (n : Nat) (xs : List Value) (hown : w.ownsRow base e size v n xs) :
    (Builtin.append_ #[t, t] ty #[v, .slice none 0 c]).run P w = .ok v w := by
  rcases hown.2 with ⟨rfl, rfl⟩ | ⟨g, cap, cur, rfl, _, _, hnc, _⟩
  · simp [Builtin.append_, run_underlying ht, sizeOf, typeInfo, hi, Builtin.lenOf, Builtin.firstCells]
  · simp [Builtin.append_, run_underlying ht, sizeOf, typeInfo, hi, Builtin.lenOf, Builtin.firstCells, hnc, storeCells]
theorem wpList_append_own_none2 {P : Program} {w : World} {ops : Array Oper} {rest : List Oper} {o : Oper} {a : Act} {Q : Exit → Act → World → Prop} (hgd : o.guard = none) (s x : Operand) (t : TypeId)
    (ho : o.op = .call { callee := .builtin .append, args := #[s, x], argTypes := #[t, t] })
    (base : Nat) (e : TypeId) (i : TypeInfo) (size c : Nat) (ht : P.underlying t = some (.slice e)) (hi : P.info? e = some i)
    (v : Value) (n : Nat) (xs : List Value) (hs : a.eval s = v) (hown : w.ownsRow base e size v n xs) (hx : a.eval x = .slice none 0 c)
    (h : wpList P ops Q rest (a.put o.dst v) w) : wpList P ops Q (o :: rest) a w := by
  refine wpList_plain hgd fun K hK => ?_
  have hrun := run_append_owned_none2 (P := P) (w := w) base t o.type e i size c ht hi v n xs hown
  unfold Oper.wp
  simp [execOp, ho, resolve, invoke, builtin, hs, hx, hrun, Result.andThen]
  exact hK _ _ h

set_option maxRecDepth 100000 in
set_option maxHeartbeats 1000000 in
theorem pnum_walk (B p n : Nat) (v : Value) (l : List UInt8) (V N : Nat) (w : World) (hV : V < 4611686018427387904) (hN0 : 0 < N) (hN : N ≤ 8) (hp : PkX w B p n l v) (hB : B ≤ w.heap.size) (hl : l.length ≤ 1000000000) :
    Calls Tryd.prog 36 #[.pointer (some ⟨p, 0, none⟩), .int .i64 V, .int .i64 N] w fun e w' => e = .returned (.tuple #[]) ∧ ∃ v', PkAt w' B p n (l ++ leB V N) v' ∧ Pk w w' B p := by
  obtain ⟨i0, hi, hz0, hz1, hz2⟩ := info_parts info5
  have HP := Lib.hid hp
  clear hp
  go_enter Tryd.func36, Tryd.ntmps36
  go_wp2
  go_loopw [1, 7] (fun v1 v7 wr => ∃ j : Nat, j ≤ N ∧ v7 = .int .i64 j ∧ v1 = .int .i64 (V / 256 ^ j : Nat) ∧ (∃ v', PkX wr B p n (l ++ leB V j) v' ∧ (0 < j → PkAt wr B p n (l ++ leB V j) v')) ∧ Pk w wr B p) (fun _ v7 _ => N - (intOf v7).toNat)
  case atStart => exact ⟨0, by omega, rfl, by simp, ⟨v, by simpa [leB] using HP.out, fun h => by omega⟩, Pk.refl _ _ _⟩
  case round =>
    obtain ⟨j, hj, rfl, rfl, ⟨v0, ho, ha⟩, hr⟩ := hrel
    have HO2 := Lib.hid ho
    have HA := Lib.hid ha
    have HR := Lib.hid hr
    have hlen : (l ++ leB V j).length ≤ 1000000008 := by rw [List.length_append, leB_length]; omega
    have HSN := Lib.hid (leB_snoc V j)
    have hB2 : B ≤ wr.heap.size := Nat.le_trans hB hr.size
    clear ho ha hr
    by_cases hlt : j < N
    · have hz : V / 256 ^ j < 4611686018427387904 := Nat.lt_of_le_of_lt (Nat.div_le_self _ _) hV
      have HNX := Lib.hid (show V / 256 ^ (j + 1) = V / 256 ^ j / 256 by rw [Nat.pow_succ, Nat.div_div_eq_div_mul])
      have HBY := Lib.hid (show ((UInt8.ofNat (V / 256 ^ j % 256)).toNat : Int) = ((V / 256 ^ j : Nat) : Int) % 256 by rw [UInt8.toNat_ofNat']; omega)
      generalize V / 256 ^ j = z at *
      generalize hm : l ++ leB V j = m at *
      have HM := Lib.hid hm
      clear hm
      have c0 := cell_whole HO2.out.blk 0
      simp only [List.getElem?_toArray, List.getElem?_cons_zero] at c0
      go_wp2_with (at_builtin; refine wpList_append_x rfl _ _ 24 rfl B i0 (.int .u8 0) Tryd.underlying24 hi hz0 hz1 hz2 rfl _ m.length _ rfl (HO2.out.own.alloc _) ⟨wr.heap.size, 0, none⟩ 1 1 [_] rfl rfl (by decide) (new_one _ _ _ _ rfl) (one_cell rfl) (by unfold maxLen; omega) (by omega) (le_alloc hB2 _) ?_)
      intro v1 w1 h1 hg1
      obtain ⟨a1, d1, rfl⟩ := Own.form h1
      have e2 : l ++ leB V (j + 1) = m ++ [UInt8.ofNat (z % 256)] := by rw [HSN.out, ← List.append_assoc, HM.out]
      obtain ⟨⟨c0', c1', f0'⟩, hpk, hfr⟩ := pk_push (m := [UInt8.ofNat (z % 256)]) (HO2.out.alloc _) (le_alloc hB2 _) (by rw [bcells_one, HBY.out]; exact h1) hg1
      rw [← e2] at hpk
      have HPK := Lib.hid hpk
      have HFR := Lib.hid (HR.out.trans (((Pk.refl wr B p).alloc hB2 _).trans hfr))
      clear h1 hg1 hpk hfr e2 c0
      go_wp2
      go_roundw
      case rel => exact ⟨j + 1, by omega, by go_num, by rw [HNX.out]; go_num, ⟨_, HPK.out.x, fun _ => HPK.out⟩, HFR.out⟩
      case measure => simp [intOf]; omega
    · obtain rfl : j = N := by omega
      go_wp2
      go_end0
      exact ⟨rfl, _, HA.out hN0, HR.out⟩

set_option maxRecDepth 100000 in
theorem ptext_walk (B p n : Nat) (v : Value) (l : List UInt8) (t : List UInt8) (w : World) (ht : t.length ≤ 10000) (hp : PkAt w B p n l v) (hB : B ≤ w.heap.size) (hl : l.length ≤ 900000000) :
    Calls Tryd.prog 37 #[.pointer (some ⟨p, 0, none⟩), .string (strOf t)] w fun e w' => e = .returned (.tuple #[]) ∧ ∃ v', PkAt w' B p n (l ++ leB t.length 2 ++ t) v' ∧ Pk w w' B p := by
  obtain ⟨i0, hi, hz0, hz1, hz2⟩ := info_parts info5
  have hts : (strOf t).size = t.length := strOf_size _
  have hnum := pnum_walk B p n v l t.length 2 w (by omega) (by omega) (by omega) hp.x hB (by omega)
  rw [show ((2 : Nat) : Int) = 2 from rfl] at hnum
  have HNUM := Lib.hid hnum
  clear hnum hp
  go_enter Tryd.func37, Tryd.ntmps37
  go_wp2_with fail
  refine HNUM.out.mono ?_
  rintro e w1 ⟨rfl, v1, hp1, hr1⟩
  have HP := Lib.hid hp1
  have HR := Lib.hid hr1
  have hB1 : B ≤ w1.heap.size := Nat.le_trans hB hr1.size
  have hl1 : (l ++ leB t.length 2).length ≤ 900000002 := by rw [List.length_append, leB_length]; omega
  have c0 := cell_whole hp1.blk 0
  simp only [List.getElem?_toArray, List.getElem?_cons_zero] at c0
  clear hp1 hr1
  generalize hm : l ++ leB t.length 2 = m at *
  have HM := Lib.hid hm
  clear hm
  go_wp2_with (at_builtin; refine Lib.wpList_append_own_string _ rfl _ _ 24 9 rfl B 5 i0 Tryd.underlying24 Tryd.underlying9 hi hz0 hz1 hz2 _ m.length _ rfl HP.out.own (strOf t) rfl (by unfold maxLen; omega) (by omega) hB1 ?_)
  intro v2 w2 h2 hg2 _
  rw [strCells_eq] at h2
  have h2' : w2.ownsRow B 5 1 v2 (m.length + t.length) (bcells m ++ bcells t) := by rw [← hts]; exact h2
  obtain ⟨a1, d1, rfl⟩ := Own.form h2
  obtain ⟨⟨c0', c1', f0'⟩, hpk, hfr⟩ := pk_push HP.out.x hB1 h2' hg2
  have HPK := Lib.hid hpk
  have HFR := Lib.hid (HR.out.trans hfr)
  clear h2 h2' hg2 hpk hfr c0
  go_wp2
  go_end0
  exact ⟨rfl, _, by rw [HM.out]; exact HPK.out, HFR.out⟩

theorem heap_new2 (w : World) (o o' : Obj) : ((w.alloc o).alloc o').heap[w.heap.size + 1]? = some o' := by
  have h := heap_alloc_new (w.alloc o) o'
  rw [size_alloc] at h
  exact h

set_option maxRecDepth 100000 in
theorem newPacker_walk (w : World) :
    Calls Tryd.prog 18 #[] w fun e w' => ∃ p v, e = .returned (.pointer (some ⟨p, 0, none⟩)) ∧ PkX w' w.heap.size p 0 magicB v ∧ Below w.heap.size w w' := by
  have hcv := Lib.run_convert_bytes_const (P := Tryd.prog) w 24 5 #[.int .u8 118, .int .u8 108, .int .u8 109, .int .u8 97, .int .u8 114, .int .u8 99, .int .u8 104, .int .u8 1] 8 8 Tryd.underlying24 Tryd.underlying5
  go_enter Tryd.func18, Tryd.ntmps18
  go_wp2
  go_ret
  refine ⟨_, _, rfl, ⟨heap_new2 _ _ _, OwnX.alloc (.inr ⟨w.heap.size, _, _, rfl, Nat.le_refl _, heap_alloc_new _ _, rfl, rfl⟩) _, Nat.le_succ _⟩, ((Below.refl _ _).alloc (Nat.le_refl _) _).alloc (le_alloc (Nat.le_refl _) _) _⟩

set_option maxRecDepth 100000 in
theorem pend_walk (B p n : Nat) (v : Value) (l : List UInt8) (w : World) (hn : n ≤ 1000000) (hp : PkX w B p n l v) (hB : B ≤ w.heap.size) (hl : l.length ≤ 900000000) :
    Calls Tryd.prog 20 #[.pointer (some ⟨p, 0, none⟩)] w fun e w' => ∃ v', e = .returned v' ∧ Own w' B 5 v' (l ++ [0] ++ leB n 4 ++ leB (crcOf (l ++ [0] ++ leB n 4)) 4).length (bcells (l ++ [0] ++ leB n 4 ++ leB (crcOf (l ++ [0] ++ leB n 4)) 4)) ∧ Below B w w' := by
  obtain ⟨i0, hi, hz0, hz1, hz2⟩ := info_parts info5
  have hnum := pnum_walk B p n v l 0 1 w (by omega) (by omega) (by omega) hp hB (by omega)
  rw [show ((1 : Nat) : Int) = 1 from rfl, show ((0 : Nat) : Int) = 0 from rfl, show leB 0 1 = [0] from rfl] at hnum
  have HNUM := Lib.hid hnum
  clear hnum hp
  go_enter Tryd.func20, Tryd.ntmps20
  go_wp2_with fail
  refine HNUM.out.mono ?_
  rintro e w1 ⟨rfl, v1, hp1, hr1⟩
  have hB1 : B ≤ w1.heap.size := Nat.le_trans hB hr1.size
  have hl1 : (l ++ [0]).length ≤ 900000001 := by rw [List.length_append, List.length_singleton]; omega
  have c0 := cell_whole hp1.blk 0
  have c1 := cell_whole hp1.blk 1
  simp only [List.getElem?_toArray, List.getElem?_cons_zero, List.getElem?_cons_succ] at c0 c1
  have hnum := pnum_walk B p n v1 _ n 4 w1 (by omega) (by omega) (by omega) hp1.x hB1 (by omega)
  rw [show ((4 : Nat) : Int) = 4 from rfl] at hnum
  have HNUM := Lib.hid hnum
  have HR := Lib.hid hr1
  clear hp1 hr1 hnum
  generalize hm1 : l ++ [0] = l1 at *
  have HM1 := Lib.hid hm1
  clear hm1
  go_wp2_with fail
  refine HNUM.out.mono ?_
  rintro e w2 ⟨rfl, v2, hp2, hr2⟩
  have hl2 : (l1 ++ leB n 4).length ≤ 900000005 := by rw [List.length_append, leB_length]; omega
  clear c0 c1
  have c0 := cell_whole hp2.blk 0
  simp only [List.getElem?_toArray, List.getElem?_cons_zero] at c0
  have hB2 : B ≤ w2.heap.size := Nat.le_trans hB1 hr2.size
  have HR2 := Lib.hid (HR.out.trans hr2)
  generalize hm2 : l1 ++ leB n 4 = l2 at *
  have HM2 := Lib.hid hm2
  clear hm2
  obtain ⟨a2, d2, rfl⟩ := hp2.own.form
  have HSUM := Lib.hid (codecSum_walk l2 a2 d2 w2 (BytesAt.of_own (n := l2.length) hp2.own).2 (by omega))
  have HP2 := Lib.hid hp2
  clear hp2 hr2
  go_wp2_with fail
  refine HSUM.out.mono ?_
  rintro e w3 ⟨rfl, hb3⟩
  have hp3 : PkAt w3 B p n l2 (.slice a2 l2.length d2) := ⟨by rw [hb3.block p (lt_whole HP2.out.blk)]; exact HP2.out.blk, own_kept HP2.out.own hb3, HP2.out.base⟩
  have hB3 : B ≤ w3.heap.size := Nat.le_trans hB2 hb3.size
  have HB3 := Lib.hid (HR2.out.low.trans (hb3.mono hB2))
  have hnum := pnum_walk B p n _ l2 (crcOf l2) 4 w3 (by have := crcOf_lt l2; omega) (by omega) (by omega) hp3.x hB3 (by omega)
  rw [show ((4 : Nat) : Int) = 4 from rfl] at hnum
  have HNUM := Lib.hid hnum
  clear hnum hp3 hb3 c0
  go_wp2_with fail
  refine HNUM.out.mono ?_
  rintro e w4 ⟨rfl, v4, hp4, hr4⟩
  have c0 := cell_whole hp4.blk 0
  simp only [List.getElem?_toArray, List.getElem?_cons_zero] at c0
  have HO := Lib.hid hp4.own
  have HB4 := Lib.hid (HB3.out.trans hr4.low)
  clear hp4 hr4
  generalize hm3 : l2 ++ leB (crcOf l2) 4 = l3 at *
  have HM3 := Lib.hid hm3
  clear hm3
  obtain ⟨a4, d4, rfl⟩ := HO.out.form
  go_wp2
  go_ret
  exact ⟨_, rfl, by rw [HM1.out, HM2.out, HM3.out]; exact HO.out, HB4.out⟩
end Go.Proofs.YtenpihkfghfpaaaDoor
