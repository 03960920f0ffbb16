/- Maps keyed by sectors or blocks, whose elements are slices; bytes made and copied. -/
import Derived.Test.YtikfphojehgpjaaGreatDoorM08
import Derived.Maps.RangeWalk
import Derived.Maps.OwnSet
import Derived.Laws.MakeOwn
import Derived.Laws.CopyRow
import Derived.Laws.AppendOwn
set_option linter.unusedSimpArgs false
set_option linter.unusedVariables false
namespace Go.Proofs.YtikfphojehgpjaaGreatDoor
open Go.RowKit Vl Go.Maps Go.ChangeMaps
set_option linter.unusedVariables false

def heldE (v : Value) : Option (DataW Value × List MemPlace) := some (.held v, [])
abbrev kL (x : Nat) : Lit := .int .i64 x

theorem key3 : Keyed Tryz.prog 3 := int_keyed Tryz.underlying3
theorem kL_inj {x y : Nat} (h : kL x = kL y) : x = y := by
  have h2 : (x : Int) = (y : Int) := by injection h
  exact Int.ofNat.inj h2
theorem kL_wf {x : Nat} (h : x < 65536) : (kL x).wf = true := by
  have e : (kL x).wf = (decide (IntKind.min .i64 ≤ (x : Int)) && decide ((x : Int) ≤ IntKind.max .i64)) := rfl
  rw [e, Bool.and_eq_true, decide_eq_true_eq, decide_eq_true_eq]
  exact ⟨Int.le_trans (by decide) (Int.natCast_nonneg x), Int.le_trans (Int.ofNat_le.2 (Nat.le_of_lt h)) (by decide)⟩
theorem kL_key {x : Nat} (h : x < 65536) : keyOf Tryz.prog 3 (.int .i64 x) = some (kL x) := keyOf_int_mk Tryz.underlying3 (kL_wf h)
theorem kL_isKey {x : Nat} (h : x < 65536) : WideAt.IsKeyLit (kL x) := key3.key (kL_key h)

/-- A function turned at one place. -/
def upd {α : Type} (m : Nat → α) (x : Nat) (v : α) : Nat → α := fun y => if y = x then v else m y
theorem upd_same {α : Type} (m : Nat → α) (x : Nat) (v : α) : upd m x v x = v := if_pos rfl
theorem upd_other {α : Type} (m : Nat → α) {x y : Nat} (v : α) (h : y ≠ x) : upd m x v y = m y := if_neg h

/-- Block b is a map of at most n entries: m. -/
def PM (w : World) (b n : Nat) (m : Nat → Option Value) : Prop :=
  ∃ D : DataW Value, w.ownsMap Tryz.prog 3 heldE b n D ∧ (∀ x z, x < 65536 → D.atKey (kL x) z = (match m x with | some v => .held v | none => z)) ∧
    (∀ x, x < 65536 → has D (kL x) = (m x).isSome) ∧ (∀ k, has D k = true → ∃ x : Nat, x < 65536 ∧ k = kL x) ∧ (∀ x, 65536 ≤ x → m x = none)
/-- A slice's zero. -/
def SlMap (t e : TypeId) : Prop := Tryz.prog.underlying t = some (.map 3 e) ∧ ∀ w : World, (zeroValue e).run Tryz.prog w = .ok (.slice none 0 0) w
theorem sl44 : SlMap 44 95 := ⟨Tryz.underlying44, fun w => by kernel_rfl⟩
theorem sl117 : SlMap 117 22 := ⟨Tryz.underlying117, fun w => by kernel_rfl⟩

section
variable {w w' : World} {b n : Nat} {m : Nat → Option Value} {t e : TypeId}
theorem PM.lt (h : PM w b n m) : b < w.heap.size := by obtain ⟨D, h, _⟩ := h; exact h.lt
theorem PM.keep (h : PM w b n m) (hb : w'.heap[b]? = w.heap[b]?) : PM w' b n m := by
  obtain ⟨D, ⟨es, clock, h1, h2⟩, h3⟩ := h
  exact ⟨D, ⟨es, clock, hb.trans h1, h2⟩, h3⟩
theorem PM.mono (h : PM w b n m) {n' : Nat} (hn : n ≤ n') : PM w b n' m := by obtain ⟨D, h, r⟩ := h; exact ⟨D, h.mono hn, r⟩
theorem PM.big (h : PM w b n m) {x : Nat} (hx : 65536 ≤ x) : m x = none := by obtain ⟨D, _, _, _, _, h⟩ := h; exact h x hx
theorem PM.made (w : World) : PM (w.alloc (.map #[] 0)) w.heap.size 0 (fun _ => none) :=
  ⟨.map [], World.ownsMap_made w Tryz.prog 3 heldE, fun x z _ => rfl, fun x _ => rfl, fun k hk => (by cases hk), fun _ _ => rfl⟩
/-- 'm[k]'. -/
theorem PM.lookup (h : PM w b n m) (ht : SlMap t e) {x : Nat} (hx : x < 65536) : (Instr.lookup t (.map (some b)) (.int .i64 x) false).run Tryz.prog w = .ok ((m x).getD (.slice none 0 0)) w := by
  obtain ⟨D, hown, hat, _⟩ := h
  obtain ⟨v, ps, hrun, hv⟩ := hown.lookup key3 ht.1 (ht.2 w) (zd := .held (.slice none 0 0)) (zp := []) rfl (kL_key hx)
  rw [hrun]
  simp only [heldE, Option.some.injEq, Prod.mk.injEq] at hv
  rw [hat x _ hx] at hv
  cases hm : m x with
  | none => rw [hm] at hv; rw [DataW.held.inj hv.1]; rfl
  | some u => rw [hm] at hv; rw [DataW.held.inj hv.1]; rfl
/-- 'v, ok := m[k]'. -/
theorem PM.look_ok (h : PM w b n m) (ht : SlMap t e) {x : Nat} (hx : x < 65536) : (Instr.lookup t (.map (some b)) (.int .i64 x) true).run Tryz.prog w = .ok (.tuple #[(m x).getD (.slice none 0 0), .bool (m x).isSome]) w := by
  obtain ⟨D, hown, hat, hhas, _⟩ := h
  obtain ⟨v, ps, hrun, hv⟩ := hown.look_ok key3 ht.1 (ht.2 w) (zd := .held (.slice none 0 0)) (zp := []) rfl (kL_key hx)
  rw [hrun, hhas x hx]
  simp only [heldE, Option.some.injEq, Prod.mk.injEq] at hv
  rw [hat x _ hx] at hv
  cases hm : m x with
  | none => rw [hm] at hv; rw [DataW.held.inj hv.1]; rfl
  | some u => rw [hm] at hv; rw [DataW.held.inj hv.1]; rfl
/-- 'm[k] = v'. -/
theorem PM.store (h : PM w b n m) (ht : SlMap t e) {x : Nat} (hx : x < 65536) (hn : n < 65536) (v : Value) :
    ∃ w', (Instr.mapUpdate t (.map (some b)) (.int .i64 x) v).run Tryz.prog w = .ok () w' ∧ PM w' b (n + 1) (upd m x (some v)) ∧ w.grownBy w' (some b) ∧ w'.heap.size = w.heap.size := by
  obtain ⟨D, hown, hat, hhas, hkey, hbig⟩ := h
  obtain ⟨w', hrun, h1, h2⟩ := hown.store key3 ht.1 (by unfold maxLen; omega) (val := v) (d := .held v) (ps := []) (kL_key hx) rfl
  refine ⟨w', hrun, ⟨_, h1, fun y z hy => ?_, fun y hy => ?_, fun k hk => ?_, fun y hy => ?_⟩, h2.grown, ?_⟩
  · by_cases e1 : y = x
    · subst e1
      rw [upd_same]
      exact atKey_put_same hown.isMap (kL_isKey hx) _ _
    · rw [upd_other m _ e1, atKey_put_other (fun e2 => e1 (kL_inj e2)), hat y z hy]
  · by_cases e1 : y = x
    · subst e1
      rw [upd_same, has_put_same hown.isMap (kL_isKey hx)]; rfl
    · rw [upd_other m _ e1, has_put_other (fun e2 => e1 (kL_inj e2)), hhas y hy]
  · by_cases e1 : k = kL x
    · exact ⟨x, hx, e1⟩
    · rw [has_put_other e1] at hk
      exact hkey k hk
  · rw [upd_other m _ (by omega)]; exact hbig y hy
  · obtain ⟨es, clock, es', clock', _, rfl⟩ := h2
    simp [setBlock]
/-- 'clear(m)'. -/
theorem PM.clear (h : PM w b n m) (ht : SlMap t e) (ty : TypeId) :
    ∃ w', (Builtin.clear_ #[t] ty #[.map (some b)]).run Tryz.prog w = .ok (.tuple #[]) w' ∧ PM w' b 0 (fun _ => none) ∧ w.grownBy w' (some b) ∧ w'.heap.size = w.heap.size := by
  obtain ⟨D, ⟨es, clock, hb, F, _⟩, _⟩ := h
  refine ⟨setBlock w b (.map #[] clock), ?_, ⟨.map [], ⟨#[], clock, heap_setBlock_same hb _, ⟨by simp, ?_, by simp⟩, Nat.le_refl _, rfl⟩, fun x z _ => rfl, fun x _ => rfl, fun k hk => (by cases hk), fun _ _ => rfl⟩, ?_, by simp [setBlock]⟩
  · simp [Builtin.clear_, run_underlying ht.1, MapKept.run_getObj_map hb, MapKept.run_setObj_map _ hb, Result.andThen, setBlock]
  · exact MapKept.stamped_empty clock
  · exact ⟨rfl, rfl, rfl, by simp [setBlock], fun i _ hi => heap_setBlock_other hb _ (fun e => hi (by rw [e]))⟩
/-- 'len(m)'. -/
theorem PM.len (h : PM w b n m) (ht : SlMap t e) (ty : TypeId) : ∃ c : Nat, (Builtin.len_ #[t] ty #[.map (some b)]).run Tryz.prog w = .ok (.int .i64 c) w ∧ c ≤ n ∧ ((∀ x, m x = none) → c = 0) ∧ (∀ x, m x ≠ none → 0 < c) := by
  obtain ⟨D, hown, hat, hhas, hkey, hbig⟩ := h
  refine ⟨Maps.size D, hown.len ht.1 ty, hown.size_le, fun hm => ?_, fun x hx => ?_⟩
  · obtain ⟨es, rfl⟩ := hown.isMap
    cases es with
    | nil => rfl
    | cons p r =>
      exfalso
      obtain ⟨es', hD, _, hk⟩ := hown.entries key3
      obtain rfl : p :: r = es' := by simpa using hD
      have : has (DataW.map (p :: r)) p.1 = true := List.any_eq_true.2 ⟨p, by simp, WideAt.sameKey_self (hk p (by simp))⟩
      obtain ⟨x, hx, e1⟩ := hkey _ this
      rw [e1, hhas x hx, hm x] at this
      cases this
  · obtain ⟨es, rfl⟩ := hown.isMap
    by_cases hx2 : x < 65536
    · have := hhas x hx2
      cases hm : m x with
      | none => exact absurd hm hx
      | some v =>
        rw [hm] at this
        cases es with
        | nil => cases this
        | cons p r => simp [Maps.size]
    · exact absurd (hbig x (by omega)) hx

/-- 'range m' under way: left: the keys still to come. -/
def PMR (w : World) (b r n : Nat) (m : Nat → Option Value) (left : Nat → Bool) (cnt : Nat) : Prop :=
  ∃ (D : DataW Value) (lf : Lit → Bool), w.ranges Tryz.prog 3 heldE b r n D lf cnt ∧ (∀ x z, x < 65536 → D.atKey (kL x) z = (match m x with | some v => .held v | none => z)) ∧
    (∀ x, x < 65536 → has D (kL x) = (m x).isSome) ∧ (∀ k, has D k = true → ∃ x : Nat, x < 65536 ∧ k = kL x) ∧ (∀ x, 65536 ≤ x → m x = none) ∧
    (∀ x, x < 65536 → lf (kL x) = left x) ∧ (∀ k, lf k = true → has D k = true) ∧ (∀ x, 65536 ≤ x → left x = false)
theorem PMR.owns {r cnt : Nat} {left : Nat → Bool} (h : PMR w b r n m left cnt) : PM w b n m := by
  obtain ⟨D, lf, h1, h2, h3, h4, h5, _⟩ := h
  exact ⟨D, h1.owns, h2, h3, h4, h5⟩
theorem PMR.left_eq {r cnt : Nat} {left : Nat → Bool} (h : PMR w b r n m left cnt) : w.rangeLeft b r = cnt := by
  obtain ⟨D, lf, h1, _⟩ := h
  exact h1.left_eq
theorem PMR.lt {r cnt : Nat} {left : Nat → Bool} (h : PMR w b r n m left cnt) : r < w.heap.size := by
  obtain ⟨D, lf, h1, _⟩ := h
  exact h1.lt
theorem PMR.keep {r cnt : Nat} {left : Nat → Bool} (h : PMR w b r n m left cnt) (hb : w'.heap[b]? = w.heap[b]?) (hr : w'.heap[r]? = w.heap[r]?) : PMR w' b r n m left cnt := by
  obtain ⟨D, lf, ⟨es, clock, since, seen, c0, h1, h2, h3, h4, h5, h6⟩, rest⟩ := h
  exact ⟨D, lf, ⟨es, clock, since, seen, c0, hb.trans h1, h2, h3, h4, hr.trans h5, h6⟩, rest⟩
theorem PM.range (h : PM w b n m) (ht : SlMap t e) :
    ∃ w' cnt, (Instr.range t (.map (some b))).run Tryz.prog w = .ok (.pointer (some ⟨w.heap.size, 0, none⟩)) w' ∧ PMR w' b w.heap.size n m (fun x => (m x).isSome) cnt ∧ cnt ≤ n ∧ w.grownBy w' none ∧ w'.heap.size = w.heap.size + 1 := by
  obtain ⟨D, hown, hat, hhas, hkey, hbig⟩ := h
  obtain ⟨w', hrun, h1, h2, h3⟩ := hown.range key3 ht.1
  exact ⟨w', Maps.size D, hrun, ⟨D, has D, h1, hat, hhas, hkey, hbig, fun x hx => hhas x hx, fun k hk => hk, fun x hx => by show (m x).isSome = false; rw [hbig x hx]; rfl⟩, hown.size_le, h2, h3⟩
theorem PMR.next {r cnt : Nat} {left : Nat → Bool} (h : PMR w b r n m left cnt) (ty : TypeId) :
    (cnt = 0 ∧ (∀ x, left x = false) ∧ (Instr.next (.pointer (some ⟨r, 0, none⟩)) false ty).run Tryz.prog w = .ok (.tuple #[.bool false]) w) ∨
    ∃ (x : Nat) (v : Value) (w' : World) (cnt' : Nat), x < 65536 ∧ left x = true ∧ m x = some v ∧ (Instr.next (.pointer (some ⟨r, 0, none⟩)) false ty).run Tryz.prog w = .ok (.tuple #[.bool true, .int .i64 x, v]) w' ∧
      PMR w' b r n m (fun y => left y && !(y == x)) cnt' ∧ cnt' < cnt ∧ w.grownBy w' (some r) ∧ w'.heap.size = w.heap.size ∧ (Instr.entry (.pointer (some ⟨r, 0, none⟩))).run Tryz.prog w' = .ok (.tuple #[.int .i64 x, v]) w' := by
  obtain ⟨D, lf, h1, hat, hhas, hkey, hbig, hlf, hlh, hlb⟩ := h
  rcases h1.next key3 ty with ⟨h0, hl, hrun⟩ | ⟨key, v, kl, y, w', cnt', hk, hlk, hv, hat', hrun, hrg, hlt, hgr, hsz, hen⟩
  · refine .inl ⟨h0, fun x => ?_, hrun⟩
    by_cases hx : x < 65536
    · rw [← hlf x hx]; exact hl _
    · exact hlb x (by omega)
  · obtain ⟨x, hx, rfl⟩ := hkey kl (hlh kl hlk)
    obtain ⟨z, rfl, hz, _⟩ := keyOf_int_inv Tryz.underlying3 hk
    injection hz with _ e2
    subst e2
    have hm : m x = some v := by
      have a1 := hat' (.held undef)
      rw [hat x _ hx] at a1
      simp only [heldE, Option.some.injEq] at hv
      subst hv
      cases hmx : m x with
      | none =>
        have a2 := hhas x hx
        rw [hlh _ hlk, hmx] at a2
        cases a2
      | some u => rw [hmx] at a1; rw [DataW.held.inj a1]
    refine .inr ⟨x, v, w', cnt', hx, by rw [← hlf x hx]; exact hlk, hm, hrun, ⟨D, _, hrg, hat, hhas, hkey, hbig, fun q hq => ?_, fun k hk' => hlh k (by simp at hk'; exact hk'.1), fun q hq => by simp [hlb q hq]⟩, hlt, hgr, hsz, hen⟩
    show (lf (kL q) && !(kL q).sameKey (kL x)) = (left q && !(q == x))
    rw [hlf q hq]
    by_cases e4 : q = x
    · subst e4
      rw [WideAt.sameKey_self (kL_isKey hq), beq_self_eq_true]
    · rw [sameKey_ne (fun e5 => e4 (kL_inj e5)), beq_eq_false_iff_ne.2 e4]
end

/-- Bytes that are made. -/
theorem make_bytes (w : World) (n : Nat) (hn : n ≤ 140737488355328) : (Instr.makeSlice 22 (.int .i64 n) (.int .i64 n)).run Tryz.prog w = .ok (.slice (some ⟨w.heap.size, 0, none⟩) n n) (w.alloc (.cells (bcells (List.replicate n 0)).toArray 5)) := by
  have hi := info5
  cases hq : Tryz.prog.info? 5 with
  | none => rw [hq] at hi; simp at hi
  | some i =>
    rw [hq] at hi
    simp only [Option.map_some, Option.some.injEq, Prod.mk.injEq] at hi
    obtain ⟨hz, hsz, hby⟩ := hi
    have := run_make (P := Tryz.prog) w 22 5 i (.int .u8 0) Tryz.underlying22 hq hz .i64 .i64 n n (by omega) (by omega) (by rw [hby]; omega) (by omega)
    rw [this, hsz]
    have e1 : madeCells (Value.cells (.int .u8 0)) ((n : Int).toNat * 1) = (bcells (List.replicate n 0)).toArray := by
      rw [Int.toNat_natCast, Nat.mul_one]
      apply Array.ext
      · simp [size_madeCells]
      · intro j h1 h2
        simp [madeCells, Value.cells, bcells, Nat.mod_one]
    rw [e1, Int.toNat_natCast]
end Go.Proofs.YtikfphojehgpjaaGreatDoor
/- The disk: how it stands in memory; its small functions. -/
namespace Go.Proofs.YtikfphojehgpjaaGreatDoor
open Go.RowKit Vl Go.Maps Go.ChangeMaps
set_option linter.unusedVariables false

theorem over_app_left {l r m : List UInt8} {a : Nat} (h : a + m.length ≤ l.length) : over (l ++ r) a m = over l a m ++ r := by
  unfold over
  rw [List.take_append_of_le_length (by omega), List.drop_append_of_le_length (by omega), List.append_assoc, List.append_assoc, List.append_assoc]
theorem over_app_right {l r m : List UInt8} (h : r.length = m.length) : over (l ++ r) l.length m = l ++ m := by
  unfold over
  rw [List.take_left, List.drop_eq_nil_of_le (by rw [List.length_append]; omega), List.append_nil]

/-- All sectors, one behind the other. -/
def secs (f : Nat → List UInt8) : Nat → List UInt8
  | 0 => []
  | n + 1 => secs f n ++ f n
theorem secs_length {f : Nat → List UInt8} {n : Nat} (h : ∀ i, i < n → (f i).length = 512) : (secs f n).length = 512 * n := by
  induction n with
  | zero => rfl
  | succ n ih => rw [secs, List.length_append, ih (fun i hi => h i (by omega)), h n (by omega)]; omega
theorem secs_congr {f g : Nat → List UInt8} {n : Nat} (h : ∀ i, i < n → f i = g i) : secs f n = secs g n := by
  induction n with
  | zero => rfl
  | succ n ih => rw [secs, secs, ih (fun i hi => h i (by omega)), h n (by omega)]
theorem secs_over {f : Nat → List UInt8} {n i : Nat} (h : ∀ i, i < n → (f i).length = 512) (hi : i < n) {m : List UInt8} (hm : m.length = 512) : over (secs f n) (512 * i) m = secs (upd f i m) n := by
  induction n with
  | zero => omega
  | succ n ih =>
    have hl := secs_length (fun i hi => h i (Nat.lt_succ_of_lt hi))
    by_cases e : i = n
    · subst e
      rw [secs, secs, ← hl, over_app_right (by rw [h i (by omega), hm]), upd_same, secs_congr (g := upd f i m) (fun j hj => (upd_other f m (by omega)).symm)]
    · rw [secs, secs, over_app_left (by rw [hl, hm]; omega), ih (fun j hj => h j (by omega)) (by omega), upd_other f m (fun e1 => e e1.symm)]
theorem secs_get {f : Nat → List UInt8} {n i j : Nat} (h : ∀ i, i < n → (f i).length = 512) (hi : i < n) (hj : j < 512) : (secs f n)[512 * i + j]? = (f i)[j]? := by
  induction n with
  | zero => omega
  | succ n ih =>
    have hl := secs_length (fun i hi => h i (Nat.lt_succ_of_lt hi))
    rw [secs]
    by_cases e : i = n
    · subst e
      rw [List.getElem?_append_right (by omega), hl, Nat.add_sub_cancel_left]
    · rw [List.getElem?_append_left (by rw [hl]; omega), ih (fun j hj => h j (by omega)) (by omega)]

/-- A disk. -/
structure Dk where
  S : Nat
  dur : Nat → List UInt8
  pend : Nat → Option (List UInt8)
  np : Nat
  fused : Bool
  left : Nat
  life : Nat
  rd : Int
  wr : Int
  fl : Int
  rf : Int
  pe : Int
def Dk.burnt (D : Dk) : Bool := D.fused && D.left == 0
def Dk.now (D : Dk) (i : Nat) : List UInt8 := (D.pend i).getD (D.dur i)
def Dk.spent (D : Dk) : Dk := { D with left := if D.fused then D.left - 1 else D.left }
def Dk.read (D : Dk) : Dk := { D with rd := wrap64 (D.rd + 1) }
def Dk.write (D : Dk) (i : Nat) (l : List UInt8) : Dk := Dk.spent { D with pend := upd D.pend i (some l), np := D.np + 1, wr := wrap64 (D.wr + 1), pe := wrap64 (D.pe + 1) }
def Dk.settled (D : Dk) : Dk := { D with dur := D.now, pend := fun _ => none, np := 0, pe := 0 }
def Dk.flush (D : Dk) : Dk := Dk.spent { D.settled with fl := wrap64 (D.fl + 1) }
def Dk.take (D : Dk) : Dk := { D with life := D.life + 1 }

def diskCells (D : Dk) (du mp : Nat) : Array Value := #[.slice (some ⟨du, 0, none⟩) (512 * D.S) (512 * D.S), .map (some mp), .bool D.fused, .int .i64 D.left, .int .i64 D.life, .int .i64 D.rd, .int .i64 D.wr, .int .i64 D.fl, .int .i64 D.rf, .int .i64 D.pe]
/-- A pending sector. -/
def PendAt (w : World) (base : Nat) (l : List UInt8) (v : Value) : Prop := l.length = 512 ∧ ∃ q, base ≤ q ∧ Bytes w q l ∧ Own w base 22 v 1 [.slice (some ⟨q, 0, none⟩) 512 512]
/-- The disk in memory: the struct, what lasts, the map of what pends; what pends lies behind 'base'. -/
structure DiskAt (w : World) (d du mp base : Nat) (D : Dk) : Prop where
  blk : w.heap[d]? = some (.cells (diskCells D du mp) 46 (0, 0))
  bytes : Bytes w du (secs D.dur D.S)
  len : ∀ i, i < D.S → (D.dur i).length = 512
  pos : 1 ≤ D.S ∧ D.S ≤ 2048
  ne : d ≠ du ∧ d ≠ mp ∧ du ≠ mp
  low : d < base ∧ du < base ∧ mp < base
  pend : ∃ m, PM w mp D.np m ∧ ∀ i, (D.pend i = none ∧ m i = none) ∨ (i < D.S ∧ ∃ l v, D.pend i = some l ∧ m i = some v ∧ PendAt w base l v)
  lft : D.left ≤ 9223372036854775807
  lif : D.life ≤ 1000000
  rng : IntOk D.rd ∧ IntOk D.wr ∧ IntOk D.fl ∧ IntOk D.rf ∧ IntOk D.pe
  base_le : base ≤ w.heap.size

theorem wrap_ok (x : Int) : IntOk (wrap64 x) := by unfold IntOk wrap64; omega

section
variable {w w' : World} {d du mp base : Nat} {D : Dk}
theorem PendAt.keep {l : List UInt8} {v : Value} (h : PendAt w base l v) (hk : ∀ k, base ≤ k → k < w.heap.size → w'.heap[k]? = w.heap[k]?) : PendAt w' base l v := by
  obtain ⟨h1, q, h2, h3, h4⟩ := h
  exact ⟨h1, q, h2, by unfold Bytes; rw [hk q h2 (lt_whole h3)]; exact h3, h4.keep fun k e => hk k (h4.block e).1 (h4.block e).2.1⟩
theorem DiskAt.kept {F : List Nat} (h : DiskAt w d du mp base D) (hk : Kept F w w') (h1 : d ∉ F) (h2 : du ∉ F) (h3 : mp ∉ F) (h4 : ∀ x ∈ F, x < base) : DiskAt w' d du mp base D := by
  refine ⟨hk.keep h.blk h1, h.bytes.kept hk h2, h.len, h.pos, h.ne, h.low, ?_, h.lft, h.lif, h.rng, Nat.le_trans h.base_le hk.size⟩
  obtain ⟨m, hm, hp⟩ := h.pend
  refine ⟨m, hm.keep (hk.block mp hm.lt h3), fun i => ?_⟩
  rcases hp i with h5 | ⟨h5, l, v, h6, h7, h8⟩
  · exact .inl h5
  · exact .inr ⟨h5, l, v, h6, h7, h8.keep fun k hb hl => hk.block k hl (fun hF => by have := h4 k hF; omega)⟩
theorem DiskAt.kept0 (h : DiskAt w d du mp base D) (hk : Kept [] w w') : DiskAt w' d du mp base D := h.kept hk (by simp) (by simp) (by simp) (by simp)
theorem DiskAt.drew (h : DiskAt w d du mp base D) : DiskAt w.drew d du mp base D := h.kept0 (Kept.refl [] w).drew
/-- A cell of the struct is written. -/
theorem DiskAt.cell {D' : Dk} (h : DiskAt w d du mp base D) (i : Nat) (v : Value) (hc : (diskCells D du mp).setIfInBounds i v = diskCells D' du mp) (e1 : D'.S = D.S) (e2 : D'.dur = D.dur) (e3 : D'.pend = D.pend) (e4 : D'.np = D.np)
    (e5 : D'.left ≤ 9223372036854775807) (e6 : D'.life ≤ 1000000) (e7 : IntOk D'.rd ∧ IntOk D'.wr ∧ IntOk D'.fl ∧ IntOk D'.rf ∧ IntOk D'.pe) : DiskAt (w.setCell ⟨d, i, none⟩ v) d du mp base D' := by
  have hk : Kept [d] w (w.setCell ⟨d, i, none⟩ v) := (Kept.refl [d] w).setCell _ _ (.inl (by simp))
  refine ⟨by rw [set_whole (i := i) h.blk, hc], by rw [e1, e2]; exact h.bytes.kept hk (by simp; exact fun e => h.ne.1 e.symm), by rw [e1, e2]; exact h.len, by rw [e1]; exact h.pos, h.ne, h.low, ?_, e5, e6, e7, Nat.le_trans h.base_le hk.size⟩
  obtain ⟨m, hm, hp⟩ := h.pend
  rw [e1, e3, e4]
  refine ⟨m, hm.keep (hk.block mp hm.lt (by simp; exact fun e => h.ne.2.1 e.symm)), fun i => ?_⟩
  rcases hp i with h5 | ⟨h5, l, v, h6, h7, h8⟩
  · exact .inl h5
  · exact .inr ⟨h5, l, v, h6, h7, h8.keep fun k hb hl => hk.block k hl (by simp; have := h.low.1; omega)⟩
theorem DiskAt.cells (h : DiskAt w d du mp base D) :
    w.cell? ⟨d, 0, none⟩ = some (.slice (some ⟨du, 0, none⟩) (512 * D.S) (512 * D.S)) ∧ w.cell? ⟨d, 1, none⟩ = some (.map (some mp)) ∧ w.cell? ⟨d, 2, none⟩ = some (.bool D.fused) ∧ w.cell? ⟨d, 3, none⟩ = some (.int .i64 D.left) ∧ w.cell? ⟨d, 4, none⟩ = some (.int .i64 D.life) ∧
    w.cell? ⟨d, 5, none⟩ = some (.int .i64 D.rd) ∧ w.cell? ⟨d, 6, none⟩ = some (.int .i64 D.wr) ∧ w.cell? ⟨d, 7, none⟩ = some (.int .i64 D.fl) ∧ w.cell? ⟨d, 8, none⟩ = some (.int .i64 D.rf) ∧ w.cell? ⟨d, 9, none⟩ = some (.int .i64 D.pe) :=
  ⟨cell_whole h.blk 0, cell_whole h.blk 1, cell_whole h.blk 2, cell_whole h.blk 3, cell_whole h.blk 4, cell_whole h.blk 5, cell_whole h.blk 6, cell_whole h.blk 7, cell_whole h.blk 8, cell_whole h.blk 9⟩
end

theorem burnt_walk (d du mp base : Nat) (D : Dk) (w : World) (h : DiskAt w d du mp base D) :
    Calls Tryz.prog 12 #[.pointer (some ⟨d, 0, none⟩)] w fun e w' => e = .returned (.bool D.burnt) ∧ w' = w := by
  obtain ⟨c0, c1, c2, c3, _⟩ := h.cells
  have hl := h.lft
  obtain ⟨f, hf⟩ : ∃ f, f = D.fused := ⟨_, rfl⟩
  obtain ⟨lf, hlf⟩ : ∃ lf, lf = D.left := ⟨_, rfl⟩
  have HE := Lib.hid (show (f && lf == 0) = D.burnt by rw [hf, hlf]; rfl)
  rw [← hf] at c2
  rw [← hlf] at c3 hl
  clear hf hlf h
  cases f with
  | false =>
    go_enter Tryz.func12, Tryz.ntmps12
    go_wp2
    go_ret
    exact ⟨by rw [← HE.out]; rfl, rfl⟩
  | true =>
    by_cases h0 : lf = 0
    · subst h0
      go_enter Tryz.func12, Tryz.ntmps12
      go_wp2
      go_ret
      exact ⟨by rw [← HE.out]; rfl, rfl⟩
    · have hd : ((lf : Int) == 0) = false := by rw [beq_eq_false_iff_ne]; omega
      have HD := Lib.hid (show (lf == 0) = false by rw [beq_eq_false_iff_ne]; exact h0)
      clear h0
      go_enter Tryz.func12, Tryz.ntmps12
      go_wp2
      go_ret
      exact ⟨by rw [← HE.out, HD.out]; rfl, rfl⟩

theorem sectors_walk (d du mp base : Nat) (D : Dk) (w : World) (h : DiskAt w d du mp base D) :
    Calls Tryz.prog 9 #[.pointer (some ⟨d, 0, none⟩)] w fun e w' => e = .returned (.int .i64 D.S) ∧ w' = w := by
  obtain ⟨c0, _⟩ := h.cells
  have hS := h.pos
  have ht : ((512 * D.S : Nat) : Int).tdiv 512 = (D.S : Int) := by rw [Int.tdiv_eq_ediv_of_nonneg (by omega)]; omega
  clear h
  go_enter Tryz.func9, Tryz.ntmps9
  go_wp2
  go_ret
  exact ⟨rfl, rfl⟩

theorem life_walk (d du mp base : Nat) (D : Dk) (w : World) (h : DiskAt w d du mp base D) :
    Calls Tryz.prog 7 #[.pointer (some ⟨d, 0, none⟩)] w fun e w' => e = .returned (.int .i64 D.life) ∧ w' = w := by
  obtain ⟨_, _, _, _, c4, _⟩ := h.cells
  clear h
  go_enter Tryz.func7, Tryz.ntmps7
  go_wp2
  go_ret
  exact ⟨rfl, rfl⟩

theorem take_walk (d du mp base : Nat) (D : Dk) (w : World) (h : DiskAt w d du mp base D) (hL : D.life < 1000000) :
    Calls Tryz.prog 30 #[.pointer (some ⟨d, 0, none⟩)] w fun e w' => e = .returned (.int .i64 (D.life + 1 : Nat)) ∧ DiskAt w' d du mp base D.take ∧ Kept [d] w w' := by
  obtain ⟨_, _, _, _, c4, _⟩ := h.cells
  have f4 := frozen_whole h.blk 4
  have hb := h.low.1
  have hb2 := h.base_le
  have H2 := Lib.hid (h.cell (D' := D.take) 4 (.int .i64 ((D.life : Int) + 1)) rfl rfl rfl rfl rfl h.lft (by show D.life + 1 ≤ _; omega) h.rng)
  have HK := Lib.hid ((Kept.refl [d] w).setCell ⟨d, 4, none⟩ (.int .i64 ((D.life : Int) + 1)) (.inl (by simp)))
  have cn := (H2.out.cells).2.2.2.2.1
  have e1 : ((Dk.take D).life : Int) = (D.life : Int) + 1 := rfl
  rw [e1] at cn
  have hlt := lt_whole h.blk
  clear h e1
  go_enter Tryz.func30, Tryz.ntmps30
  go_wp2
  go_ret
  exact ⟨rfl, H2.out, HK.out⟩
end Go.Proofs.YtikfphojehgpjaaGreatDoor
/- The disk: there, spend, home, now, settle. -/
namespace Go.Proofs.YtikfphojehgpjaaGreatDoor
open Go.RowKit Vl Go.Maps Go.ChangeMaps
set_option linter.unusedVariables false

theorem make_sector (w : World) : (Instr.makeSlice 22 (.int .i64 512) (.int .i64 512)).run Tryz.prog w = .ok (.slice (some ⟨w.heap.size, 0, none⟩) 512 512) (w.alloc (.cells (bcells zsec).toArray 5)) := make_bytes w 512 (by omega)
theorem copy_sector (w : World) (g o dCap : Nat) (l m : List UInt8) (a : Option Addr) (sCap : Nat) (hB : Bytes w g l) (hm : BytesAt w a m) (hd : m.length = 512) (hfit : o + 512 ≤ l.length) (ty : TypeId)
    (H : ∀ dLen, m.length = dLen → o + m.length ≤ l.length → 0 < m.length → ∃ w', (Builtin.copy_ #[22, 22] ty #[.slice (some ⟨g, o, none⟩) dLen dCap, .slice a m.length sCap]).run Tryz.prog w = .ok (.int .i64 m.length) w' ∧ Bytes w' g (over l o m) ∧ Kept [g] w w') :
    ∃ w', (Builtin.copy_ #[22, 22] ty #[.slice (some ⟨g, o, none⟩) 512 dCap, .slice a 512 sCap]).run Tryz.prog w = .ok (.int .i64 512) w' ∧ Bytes w' g (over l o m) ∧ Kept [g] w w' := by
  obtain ⟨w', h1, h2, h3⟩ := H 512 hd (by omega) (by omega)
  rw [hd] at h1
  exact ⟨w', h1, h2, h3⟩
theorem over_all {l m : List UInt8} (h : m.length = l.length) : over l 0 m = m := by
  unfold over
  rw [List.take_zero, Nat.zero_add, List.drop_eq_nil_of_le (by omega), List.nil_append, List.append_nil]

/-- Bytes that are copied. -/
theorem copy_bytes (w : World) (g o dLen dCap : Nat) (l m : List UInt8) (a : Option Addr) (sCap : Nat) (hB : Bytes w g l) (hm : BytesAt w a m) (hd : m.length = dLen) (hfit : o + m.length ≤ l.length) (hp : 0 < m.length) (ty : TypeId) :
    ∃ w', (Builtin.copy_ #[22, 22] ty #[.slice (some ⟨g, o, none⟩) dLen dCap, .slice a m.length sCap]).run Tryz.prog w = .ok (.int .i64 m.length) w' ∧ Bytes w' g (over l o m) ∧ Kept [g] w w' := by
  obtain ⟨g2, off, ha, _⟩ := hm 0 hp
  have hr := run_copy_row (P := Tryz.prog) w 22 22 ty 5 g o dLen dCap ⟨g2, off, none⟩ m.length sCap (bcells l).toArray 5 (bcells m) Tryz.underlying22 (by
    have hi := info5
    cases hq : Tryz.prog.info? 5 with
    | none => rw [hq] at hi; simp at hi
    | some i => rw [hq] at hi; simp at hi; simp [hi]) hB (by simp [hd]) (fun j v hj => by
      obtain ⟨hj1, hj2⟩ := List.getElem?_eq_some_iff.1 hj
      rw [bcells_length] at hj1
      obtain ⟨g3, off3, e3, _, hc⟩ := hm j hj1
      rw [ha] at e3
      injection e3 with e4
      injection e4 with e5 e6 _
      subst e5; subst e6
      rw [Addr.add_lit, hc, ← hj2]
      simp [bcells]) (by simp; omega) (bcells_oneCell m)
  subst ha
  refine ⟨_, by rw [hr, bcells_length]; rfl, ?_, ?_⟩
  · unfold Bytes
    rw [setRow_heap w g _ _ 5 (0, 0) hB]
    have e1 : ((bcells l).toArray.toList.take o ++ bcells m ++ (bcells l).toArray.toList.drop (o + m.length)) = bcells (over l o m) := by
      unfold over
      simp [bcells, List.map_take, List.map_drop]
    rw [e1]
  · refine ⟨rfl, rfl, rfl, ?_, fun k hk hg => ?_⟩
    · show w.heap.size ≤ (w.heap.modify g _).size; simp
    · show (w.heap.modify g _)[k]? = w.heap[k]?
      rw [Array.getElem?_modify, if_neg (fun e => hg (by simp [e]))]

theorem there_walk (d du mp base : Nat) (D : Dk) (w : World) (h : DiskAt w d du mp base D) (i : Nat) (hi : i < D.S) :
    Calls Tryz.prog 81 #[.pointer (some ⟨d, 0, none⟩), .int .i64 i] w fun e w' => e = .returned (.int .i64 (if D.burnt = true then 3 else 0)) ∧ Kept [] w w' := by
  have HB := Lib.hid (burnt_walk d du mp base D w h)
  have HS := Lib.hid (sectors_walk d du mp base D w.drew h.drew)
  have HS0 := Lib.hid (sectors_walk d du mp base D w h)
  have hS := h.pos
  have hlt := lt_whole h.blk
  clear h
  have t1 : decide ((i : Int) < 0) = false := decide_eq_false (by omega)
  have t2 : decide ((D.S : Int) ≤ i) = false := decide_eq_false (by omega)
  obtain ⟨S, hSe⟩ : ∃ S, S = D.S := ⟨_, rfl⟩
  rw [← hSe] at t2 hi hS HS HS0
  clear hSe
  cases hb : D.burnt with
  | true =>
    rw [hb] at HB
    go_enter Tryz.func81, Tryz.ntmps81
    go_wp2_with fail
    refine HB.out.mono ?_
    rintro e w' ⟨rfl, rfl⟩
    go_wp2
    go_ret
    exact ⟨rfl, Kept.refl _ _⟩
  | false =>
    rw [hb] at HB
    go_enter Tryz.func81, Tryz.ntmps81
    go_wp2_with fail
    refine HB.out.mono ?_
    rintro e w' ⟨rfl, rfl⟩
    go_wp2_with fail
    refine HS0.out.mono ?_
    rintro e w2 ⟨rfl, rfl⟩
    go_wp2
    go_ret
    exact ⟨rfl, Kept.refl _ _⟩

theorem spend_walk (d du mp base : Nat) (D : Dk) (w : World) (h : DiskAt w d du mp base D) (hb : D.burnt = false) :
    Calls Tryz.prog 82 #[.pointer (some ⟨d, 0, none⟩)] w fun e w' => e = .returned (.tuple #[]) ∧ DiskAt w' d du mp base D.spent ∧ Kept [d] w w' := by
  obtain ⟨_, _, c2, c3, _⟩ := h.cells
  have f3 := frozen_whole h.blk 3
  have H := Lib.hid h
  have hl := h.lft
  have hlt := lt_whole h.blk
  clear h
  cases hf : D.fused with
  | false =>
    rw [hf] at c2
    have HD := Lib.hid (show D.spent = D by
      have : (if D.fused = true then D.left - 1 else D.left) = D.left := by rw [hf]; rfl
      unfold Dk.spent
      rw [this])
    go_enter Tryz.func82, Tryz.ntmps82
    go_wp2
    go_end0
    exact ⟨rfl, by rw [HD.out]; exact H.out, Kept.refl _ _⟩
  | true =>
    rw [hf] at c2
    have hpos : 1 ≤ D.left := by
      unfold Dk.burnt at hb
      rw [hf, Bool.true_and, beq_eq_false_iff_ne] at hb
      omega
    have HIF := Lib.hid (show (if D.fused = true then D.left - 1 else D.left) = D.left - 1 by rw [hf]; rfl)
    have HC := Lib.hid (H.out.cell (D' := D.spent) 3 (.int .i64 ((D.left : Int) - 1)) (by
      have e1 : ((D.left : Int) - 1) = ((D.left - 1 : Nat) : Int) := by omega
      rw [e1, ← HIF.out]
      rfl) rfl rfl rfl rfl (by show (if D.fused = true then D.left - 1 else D.left) ≤ _; rw [HIF.out]; omega) H.out.lif H.out.rng)
    have HK := Lib.hid ((Kept.refl [d] w).setCell ⟨d, 3, none⟩ (.int .i64 ((D.left : Int) - 1)) (.inl (by simp)))
    clear hb
    go_enter Tryz.func82, Tryz.ntmps82
    go_wp2
    go_end0
    exact ⟨rfl, HC.out, HK.out⟩

theorem home_walk (d du mp base : Nat) (D : Dk) (w : World) (h : DiskAt w d du mp base D) (i : Nat) (hi : i < D.S) :
    Calls Tryz.prog 83 #[.pointer (some ⟨d, 0, none⟩), .int .i64 i] w fun e w' => e = .returned (.slice (some ⟨du, 512 * i, none⟩) 512 (512 * D.S - 512 * i)) ∧ w' = w := by
  obtain ⟨c0, _⟩ := h.cells
  have hS := h.pos
  have hlt := lt_whole h.bytes
  clear h
  have e1 : ((i : Int) + 1) * 512 = ((512 * i + 512 : Nat) : Int) := by omega
  have e2 : (i : Int) * 512 = ((512 * i : Nat) : Int) := by omega
  go_enter Tryz.func83, Tryz.ntmps83
  go_wp2
  go_ret
  refine ⟨?_, rfl⟩
  show Ending.returned (Value.slice _ (512 * i + 512 - 512 * i) _) = _
  rw [Nat.add_sub_cancel_left]

theorem DiskAt.homeAt {w : World} {d du mp base : Nat} {D : Dk} (h : DiskAt w d du mp base D) {i : Nat} (hi : i < D.S) : BytesAt w (some ⟨du, 512 * i, none⟩) (D.dur i) := by
  intro j hj
  have hl := h.len i hi
  have hj2 : j < 512 := by omega
  have hlen := secs_length h.len
  refine ⟨du, 512 * i, rfl, lt_whole h.bytes, ?_⟩
  have hg := secs_get h.len hi hj2
  rw [List.getElem?_eq_getElem hj] at hg
  obtain ⟨h1, h2⟩ := List.getElem?_eq_some_iff.1 hg
  rw [← h2]
  exact h.bytes.cell h1
theorem DiskAt.now_len {w : World} {d du mp base : Nat} {D : Dk} (h : DiskAt w d du mp base D) {i : Nat} (hi : i < D.S) : (D.now i).length = 512 := by
  obtain ⟨m, hm, hp⟩ := h.pend
  unfold Dk.now
  rcases hp i with ⟨h1, _⟩ | ⟨_, l, v, h1, _, h2, _⟩
  · rw [h1]; exact h.len i hi
  · rw [h1]; exact h2

def NowPost (D : Dk) (i : Nat) (w : World) (e : Ending) (w' : World) : Prop := ∃ a c, e = .returned (.slice a 512 c) ∧ BytesAt w a (D.now i) ∧ w' = w
def ReadPost (d du mp base : Nat) (D : Dk) (i : Nat) (w : World) (e : Ending) (w' : World) : Prop := (D.burnt = true ∧ e = .returned (.tuple #[.slice none 0 0, .int .i64 3]) ∧ Kept [] w w') ∨
      (D.burnt = false ∧ ∃ g, w.heap.size ≤ g ∧ e = .returned (.tuple #[.slice (some ⟨g, 0, none⟩) 512 512, .int .i64 0]) ∧ Bytes w' g (D.now i) ∧ DiskAt w' d du mp base D.read ∧ Kept [d] w w')
set_option maxHeartbeats 1000000 in
theorem now_walk (d du mp base : Nat) (D : Dk) (w : World) (h : DiskAt w d du mp base D) (i : Nat) (hi : i < D.S) :
    Calls Tryz.prog 84 #[.pointer (some ⟨d, 0, none⟩), .int .i64 i] w (NowPost D i w) := by
  have H := Lib.hid h
  obtain ⟨_, c1, _⟩ := h.cells
  have hS := h.pos
  obtain ⟨m, hm, hp⟩ := h.pend
  have hlk := hm.lookup sl44 (show i < 65536 by omega)
  have HH := Lib.hid (home_walk d du mp base D w h i hi)
  have hlt := lt_whole h.blk
  clear h
  rcases hp i with ⟨h1, h2⟩ | ⟨_, l, v, h1, h2, h3⟩
  · rw [h2] at hlk
    simp only [Option.getD_none] at hlk
    have HN := Lib.hid (show D.now i = D.dur i by unfold Dk.now; rw [h1]; rfl)
    clear h1 h2 hp hm
    go_enter Tryz.func84, Tryz.ntmps84
    go_wp2_with fail
    refine HH.out.mono ?_
    rintro e w' ⟨rfl, rfl⟩
    go_wp2
    go_ret
    exact ⟨_, _, rfl, by rw [HN.out]; exact H.out.homeAt hi, rfl⟩
  · rw [h2] at hlk
    simp only [Option.getD_some] at hlk
    have HN := Lib.hid (show D.now i = l by unfold Dk.now; rw [h1]; rfl)
    obtain ⟨h5, q, h6, h7, h8⟩ := h3
    clear h1 h2 hp hm
    obtain ⟨a, c, rfl⟩ := h8.form
    cases a with
    | none => exact absurd (h8.nil_of_none rfl).1 (by simp)
    | some ad =>
      obtain ⟨g, off, sp⟩ := ad
      obtain ⟨rfl, rfl, _, hc⟩ := h8.cells rfl
      have hc0 := hc 0 (by omega)
      simp only [List.getElem?_cons_zero] at hc0
      have H7 := Lib.hid h7
      clear h7 h8 hc h5
      go_enter Tryz.func84, Tryz.ntmps84
      go_wp2
      go_ret
      exact ⟨_, _, rfl, by rw [HN.out]; exact H7.out.at, rfl⟩

set_option maxHeartbeats 1000000 in
theorem read_walk (d du mp base : Nat) (D : Dk) (w : World) (h : DiskAt w d du mp base D) (i : Nat) (hi : i < D.S) :
    Calls Tryz.prog 40 #[.pointer (some ⟨d, 0, none⟩), .int .i64 i] w (ReadPost d du mp base D i w) := by
  have H := Lib.hid h
  have HT := Lib.hid (there_walk d du mp base D w h i hi)
  have hlt := lt_whole h.blk
  clear h
  cases hb : D.burnt with
  | true =>
    rw [hb] at HT
    go_enter Tryz.func40, Tryz.ntmps40
    go_wp2_with fail
    refine HT.out.mono ?_
    rintro e w1 ⟨rfl, hk⟩
    simp only [if_true]
    go_wp2
    go_ret2
    exact .inl ⟨hb, rfl, hk⟩
  | false =>
    rw [hb] at HT
    go_enter Tryz.func40, Tryz.ntmps40
    go_wp2_with fail
    refine HT.out.mono ?_
    rintro e w1 ⟨rfl, hk⟩
    simp only [Bool.false_eq_true, if_false]
    have H1 := Lib.hid (H.out.kept0 hk)
    have HK1 := Lib.hid hk
    have hsz := hk.size
    have hlt1 := lt_whole H1.out.blk
    obtain ⟨_, _, _, _, _, c5, _⟩ := H1.out.cells
    have f5 := frozen_whole H1.out.blk 5
    clear hk
    go_upto_region 5 with fail
    have HR := Lib.hid (H1.out.cell (D' := D.read) 5 (.int .i64 (wrap64 (D.rd + 1))) rfl rfl rfl rfl rfl H1.out.lft H1.out.lif ⟨wrap_ok _, H1.out.rng.2⟩)
    have HK2 := Lib.hid ((HK1.out.mono (G := [d]) (by simp)).setCell ⟨d, 5, none⟩ (.int .i64 (wrap64 (D.rd + 1))) (.inl (by simp)))
    have hsz2 : w.heap.size ≤ (w1.setCell ⟨d, 5, none⟩ (.int .i64 (wrap64 (D.rd + 1)))).heap.size := HK2.out.size
    clear c5 f5 hlt1
    generalize w1.setCell ⟨d, 5, none⟩ (.int .i64 (wrap64 (D.rd + 1))) = w2 at *
    have hmk := make_sector w2
    have HK23 := Lib.hid ((Kept.refl [] w2).alloc (.cells (bcells zsec).toArray 5))
    have HD3 := Lib.hid (HR.out.kept0 HK23.out)
    have HK3 := Lib.hid (HK2.out.alloc (.cells (bcells zsec).toArray 5))
    have HB3 := Lib.hid (show Bytes (w2.alloc (.cells (bcells zsec).toArray 5)) w2.heap.size zsec from heap_alloc_new w2 _)
    go_upto_region 6 with fail
    clear hmk
    generalize w2.alloc (.cells (bcells zsec).toArray 5) = w3 at *
    have HN := Lib.hid (now_walk d du mp base D.read w3 HD3.out i hi)
    have HL := HD3.out.now_len hi
    go_wp2_with fail
    refine HN.out.mono ?_
    rintro e w4 ⟨a, c, rfl, hba, rfl⟩
    obtain ⟨w5, hcp, hb5, hk5⟩ := copy_sector w4 w2.heap.size 0 512 zsec (D.read.now i) a c HB3.out hba HL (by rw [zsec_length]; omega) 3 (fun dLen h1 h2 h3 => copy_bytes w4 _ _ dLen 512 _ _ a c HB3.out hba h1 h2 h3 3)
    rw [over_all (by rw [HL, zsec_length])] at hb5
    have HB5 := Lib.hid hb5
    have HK5 := Lib.hid hk5
    clear hb5 hk5 hba HL
    go_wp2
    go_ret2
    exact .inr ⟨hb, _, hsz2, rfl, HB5.out, HR.out.kept0 (HK23.out.trans HK5.out (by simp)), HK3.out.trans HK5.out (by simp [hsz2])⟩
end Go.Proofs.YtikfphojehgpjaaGreatDoor
/- The disk: Write. -/
namespace Go.Proofs.YtikfphojehgpjaaGreatDoor
open Go.RowKit Vl Go.Maps Go.ChangeMaps
set_option linter.unusedVariables false

theorem info22 : (Tryz.prog.info? 22).map (fun i => (i.zero, i.size, i.bytes)) = some (some (.slice none 0 0), 1, 24) := by kernel_rfl

/-- 'append' of one list to none. -/
theorem append_first (w : World) (base : Nat) (x : Value) (hx : x.oneCell' = true) (hb : base ≤ w.heap.size) (g c : Nat) (hg : w.cell? ⟨g, 0, none⟩ = some x) (ty : TypeId) :
    ∃ v w', (Builtin.append_ #[95, 95] ty #[.slice none 0 0, .slice (some ⟨g, 0, none⟩) 1 c]).run Tryz.prog w = .ok v w' ∧ Own w' base 22 v 1 [x] ∧ w.grownBy w' none := by
  have hi := info22
  cases hq : Tryz.prog.info? 22 with
  | none => rw [hq] at hi; simp at hi
  | some i =>
    rw [hq] at hi
    simp only [Option.map_some, Option.some.injEq, Prod.mk.injEq] at hi
    obtain ⟨v, w', h1, h2, h3, _⟩ := run_append_own (P := Tryz.prog) w base 95 ty 22 i (.slice none 0 0) 1 24 Tryz.underlying95 hq hi.1 hi.2.1 hi.2.2 rfl (by decide) (.slice none 0 0) 0 [] (World.ownsRow_nil w base 22 1) ⟨g, 0, none⟩ 1 c [x] rfl (fun j u hj => by
      cases j with
      | zero => simp at hj; subst hj; exact hg
      | succ j => simp at hj) (one_cell hx) (by unfold maxLen; omega) (by omega) hb
    exact ⟨v, w', h1, h2, h3⟩

/-- 'append' whose run is known. -/
theorem wpList_append_eq {P : Program} {w : World} {ops : Array Oper} {rest : List Oper} {o : Oper} {a : Act} {Q : Exit → Act → World → Prop} (hgd : o.guard = none) (s x : Operand) (t u : TypeId)
    (ho : o.op = .call { callee := .builtin .append, args := #[s, x], argTypes := #[t, u] })
    {v1 v2 v : Value} {w' : World} (hs : a.eval s = v1) (hx : a.eval x = v2) (hr : (Builtin.append_ #[t, u] o.type #[v1, v2]).run P w = .ok v w')
    (h : wpList P ops Q rest (a.put o.dst v) w') : wpList P ops Q (o :: rest) a w := by
  refine wpList_plain hgd fun K hK => ?_
  unfold Oper.wp execOp
  simp only [ho, resolve, invoke, builtin, Sem.run_bind, Sem.run_pure, Result.andThen_ok, List.map_toArray, List.map_cons, List.map_nil, hs, hx, hr]
  exact hK _ _ h

/-- A write has gone into the map. -/
theorem DiskAt.put {w w3 : World} {d du mp base : Nat} {D : Dk} (h : DiskAt w d du mp base D) {i q : Nat} {l : List UInt8} {v : Value} (hi : i < D.S) (hl : l.length = 512) (hq : base ≤ q) (hB : Bytes w q l) (hO : Own w base 22 v 1 [.slice (some ⟨q, 0, none⟩) 512 512])
    (hn : D.np < 65536) {m : Nat → Option Value} (hm : PM w mp D.np m) (hmp : ∀ i, (D.pend i = none ∧ m i = none) ∨ (i < D.S ∧ ∃ l v, D.pend i = some l ∧ m i = some v ∧ PendAt w base l v)) (hm3 : PM w3 mp (D.np + 1) (upd m i (some v))) (hg : w.grownBy w3 (some mp)) :
    DiskAt w3 d du mp base { D with pend := upd D.pend i (some l), np := D.np + 1 } := by
  have hk : Kept [mp] w w3 := (Kept.refl [mp] w).grown hg (fun k hk => by injection hk with e; subst e; exact .inl (by simp))
  have hne := h.ne
  have hlow := h.low
  refine ⟨hk.keep h.blk (by simp; exact hne.2.1), h.bytes.kept hk (by simp; exact hne.2.2), h.len, h.pos, hne, hlow, ⟨_, hm3, fun j => ?_⟩, h.lft, h.lif, h.rng, Nat.le_trans h.base_le hk.size⟩
  have hkk : ∀ k, base ≤ k → k < w.heap.size → w3.heap[k]? = w.heap[k]? := fun k h1 h2 => hk.block k h2 (by simp; omega)
  by_cases e : j = i
  · subst e
    refine .inr ⟨hi, l, v, upd_same _ _ _, upd_same _ _ _, PendAt.keep ⟨hl, q, hq, hB, hO⟩ hkk⟩
  · rcases hmp j with ⟨h5, h6⟩ | ⟨h5, l', v', h6, h7, h8⟩
    · exact .inl ⟨(upd_other _ _ e).trans h5, (upd_other _ _ e).trans h6⟩
    · exact .inr ⟨h5, l', v', (upd_other _ _ e).trans h6, (upd_other _ _ e).trans h7, h8.keep hkk⟩

def WritePost (d du mp base : Nat) (D : Dk) (i : Nat) (l : List UInt8) (w : World) (e : Ending) (w' : World) : Prop := (D.burnt = true ∧ e = .returned (.int .i64 3) ∧ Kept [] w w') ∨
      (D.burnt = false ∧ e = .returned (.int .i64 0) ∧ DiskAt w' d du mp base (D.write i l) ∧ Kept [d, mp] w w')

set_option maxRecDepth 100000 in
set_option maxHeartbeats 2000000 in
theorem write_walk (d du mp base : Nat) (D : Dk) (w : World) (h : DiskAt w d du mp base D) (i : Nat) (hi : i < D.S) (l : List UInt8) (a : Option Addr) (c : Nat) (hl : BytesAt w a l) (hll : l.length = 512) (hp : D.pend i = none) (hnp : D.np < 60000) :
    Calls Tryz.prog 32 #[.pointer (some ⟨d, 0, none⟩), .int .i64 i, .slice a 512 c] w (WritePost d du mp base D i l w) := by
  have H := Lib.hid h
  have HT := Lib.hid (there_walk d du mp base D w h i hi)
  have hlt := lt_whole h.blk
  have hS := h.pos
  have hlow := h.low
  have hne := h.ne
  have HLL := Lib.hid hll
  have HL := Lib.hid hl
  have HP := Lib.hid hp
  clear h hl hll hp
  cases hb : D.burnt with
  | true =>
    rw [hb] at HT
    go_enter Tryz.func32, Tryz.ntmps32
    go_wp2_with fail
    refine HT.out.mono ?_
    rintro e w1 ⟨rfl, hk⟩
    simp only [if_true]
    go_wp2
    go_ret
    exact .inl ⟨hb, rfl, hk⟩
  | false =>
    rw [hb] at HT
    go_enter Tryz.func32, Tryz.ntmps32
    go_wp2_with fail
    refine HT.out.mono ?_
    rintro e w1 ⟨rfl, hk⟩
    simp only [Bool.false_eq_true, if_false]
    have H1 := Lib.hid (H.out.kept0 hk)
    have HK1 := Lib.hid hk
    have HL1 := Lib.hid (HL.out.below hk.below)
    have hsz := hk.size
    have hbl := H1.out.base_le
    have hmk := make_sector w1
    clear hk
    go_upto_region 8 with fail
    have HK2 := Lib.hid ((Kept.refl [] w1).alloc (.cells (bcells zsec).toArray 5))
    have HB2 := Lib.hid (show Bytes (w1.alloc (.cells (bcells zsec).toArray 5)) w1.heap.size zsec from heap_alloc_new w1 _)
    have HL2 := Lib.hid (HL1.out.below HK2.out.below)
    clear hmk
    generalize w1.alloc (.cells (bcells zsec).toArray 5) = w2 at *
    obtain ⟨w3, hcp, hb3, hk3⟩ := copy_sector w2 w1.heap.size 0 512 zsec l a c HB2.out HL2.out HLL.out (by rw [zsec_length]; omega) 3 (fun dLen h1 h2 h3 => copy_bytes w2 _ _ dLen 512 _ _ a c HB2.out HL2.out h1 h2 h3 3)
    rw [over_all (by rw [HLL.out, zsec_length])] at hb3
    have HB3 := Lib.hid hb3
    have HK13 := Lib.hid (HK2.out.trans hk3 (by simp))
    clear hb3 hk3
    go_upto_region 9 with fail
    have H3 := Lib.hid (H1.out.kept0 HK13.out)
    clear hcp
    have hsz3 := HK13.out.size
    have hlb := lt_whole HB3.out
    obtain ⟨m, hm, hmp⟩ := H3.out.pend
    have hmi : m i = none := by
      rcases hmp i with ⟨_, h5⟩ | ⟨_, l', v', h5, _⟩
      · exact h5
      · rw [HP.out] at h5; cases h5
    have HM := Lib.hid hm
    have HMP := Lib.hid hmp
    have hlk := (hm.keep (w' := w3.drew) rfl).lookup sl44 (show i < 65536 by omega)
    rw [hmi] at hlk
    simp only [Option.getD_none] at hlk
    obtain ⟨x, hx⟩ : ∃ x, x = Value.slice (some ⟨w1.heap.size, 0, none⟩) 512 512 := ⟨_, rfl⟩
    obtain ⟨v, w5, hap, hO5, hg5⟩ := append_first (w3.drew.alloc (.cells #[x] 22)) base x (by rw [hx]; rfl) (by rw [size_alloc, size_drew]; omega) w3.heap.size 1 (by
      have := cell_whole (heap_alloc_new w3.drew (.cells #[x] 22)) 0
      exact this) 95
    have HK5 := Lib.hid ((((Kept.refl [] w3).drew).alloc (.cells #[x] 22)).grown hg5 (fun k hk => by cases hk))
    have hm5 := HM.out.keep (HK5.out.block mp HM.out.lt (by simp))
    obtain ⟨w6, hst, hm6, hg6, hs6⟩ := hm5.store sl44 (show i < 65536 by omega) (show D.np < 65536 by omega) v
    have H5 := Lib.hid (H3.out.kept0 HK5.out)
    subst hx
    have HO5 := Lib.hid hO5
    have HM6 := Lib.hid hm6
    have HG6 := Lib.hid hg6
    have HM5 := Lib.hid hm5
    obtain ⟨c0, c1, _⟩ := H3.out.cells
    clear hm hmp hmi hO5 hg5 hm6 hg6 hs6 hm5
    have HPUT := Lib.hid (H5.out.put (v := v) hi HLL.out (show base ≤ w1.heap.size from hbl) (HB3.out.kept HK5.out (by simp)) HO5.out (by omega) HM5.out (fun j => by
      rcases HMP.out j with h5 | ⟨h5, l', v', h6, h7, h8⟩
      · exact .inl h5
      · exact .inr ⟨h5, l', v', h6, h7, h8.keep (fun k _ h2 => HK5.out.block k h2 (by simp))⟩) HM6.out HG6.out)
    have HK6 := Lib.hid ((HK5.out.mono (G := [mp]) (by simp)).grown HG6.out (fun k hk => by injection hk with e; subst e; exact .inl (by simp)))
    obtain ⟨_, c15, _⟩ := H5.out.cells
    refine wp_canon_call 13 [3, 8, 10, 12] [[5, 6, 7, 8, 9, 10, 11, 12, 13, 0, 1, 2, 3, 4, 14], [0, 1, 2, 3, 5, 6, 7, 8, 9, 10, 11, 12, 13, 4, 14]] (by kernel_rfl) (by kernel_rfl) (by kernel_rfl) ⟨?_, ?_, trivial⟩
    all_goals simp only [fm_cons, List.filterMap_nil, List.getElem?_toArray, List.getElem?_cons_zero, List.getElem?_cons_succ, Option.elim_some]
    all_goals
      go_wp2_with (at_builtin; refine wpList_append_eq rfl _ _ 95 95 rfl rfl rfl hap ?_)
      refine ⟨rfl, ?_⟩
      clear hap hst c0 c1 hlk
      obtain ⟨_, _, _, _, _, _, c6, _, _, c9⟩ := HPUT.out.cells
      have f6 := frozen_whole HPUT.out.blk 6
      have hlt6 := lt_whole HPUT.out.blk
      have HW := Lib.hid (HPUT.out.cell (D' := { D with pend := upd D.pend i (some l), np := D.np + 1, wr := wrap64 (D.wr + 1) }) 6 (.int .i64 (wrap64 (D.wr + 1))) rfl rfl rfl rfl rfl HPUT.out.lft HPUT.out.lif ⟨HPUT.out.rng.1, wrap_ok _, HPUT.out.rng.2.2⟩)
      have HKW := Lib.hid ((HK6.out.mono (G := [d, mp]) (by simp)).setCell ⟨d, 6, none⟩ (.int .i64 (wrap64 (D.wr + 1))) (.inl (by simp)))
      obtain ⟨_, _, _, _, _, _, _, _, _, c9'⟩ := HW.out.cells
      have f9' := frozen_whole HW.out.blk 9
      have HPE := Lib.hid (HW.out.cell (D' := { D with pend := upd D.pend i (some l), np := D.np + 1, wr := wrap64 (D.wr + 1), pe := wrap64 (D.pe + 1) }) 9 (.int .i64 (wrap64 (D.pe + 1))) rfl rfl rfl rfl rfl HW.out.lft HW.out.lif ⟨HW.out.rng.1, HW.out.rng.2.1, HW.out.rng.2.2.1, HW.out.rng.2.2.2.1, wrap_ok _⟩)
      have HKP := Lib.hid (HKW.out.setCell ⟨d, 9, none⟩ (.int .i64 (wrap64 (D.pe + 1))) (.inl (by simp)))
      go_upto_region 12 with fail
      clear c6 c9 f6 hlt6 c9' f9'
      generalize (w6.setCell ⟨d, 6, none⟩ (.int .i64 (wrap64 (D.wr + 1)))).setCell ⟨d, 9, none⟩ (.int .i64 (wrap64 (D.pe + 1))) = w7 at *
      have HSP := Lib.hid (spend_walk d du mp base _ w7 HPE.out hb)
      go_wp2_with fail
      refine HSP.out.mono ?_
      rintro e w8 ⟨rfl, hd8, hk8⟩
      go_wp2
      go_ret
      exact .inr ⟨hb, rfl, hd8, ((HK1.out.trans HK13.out (by simp)).mono (by simp)).trans (HKP.out.trans hk8 (by simp)) (by simp)⟩
end Go.Proofs.YtikfphojehgpjaaGreatDoor
/- The disk: settle, Flush. -/
namespace Go.Proofs.YtikfphojehgpjaaGreatDoor
open Go.RowKit Vl Go.Maps Go.ChangeMaps
set_option linter.unusedVariables false

theorem DiskAt.redur {w w' : World} {d du mp base : Nat} {D : Dk} (h : DiskAt w d du mp base D) (hk : Kept [du] w w') (f : Nat → List UInt8) (hB : Bytes w' du (secs f D.S)) (hl : ∀ i, i < D.S → (f i).length = 512) : DiskAt w' d du mp base { D with dur := f } := by
  have hne := h.ne
  have hlow := h.low
  refine ⟨hk.keep h.blk (by simp; exact hne.1), hB, hl, h.pos, hne, hlow, ?_, h.lft, h.lif, h.rng, Nat.le_trans h.base_le hk.size⟩
  obtain ⟨m, hm, hp⟩ := h.pend
  refine ⟨m, hm.keep (hk.block mp hm.lt (by simp; exact fun e => hne.2.2 e.symm)), fun i => ?_⟩
  rcases hp i with h5 | ⟨h5, l, v, h6, h7, h8⟩
  · exact .inl h5
  · exact .inr ⟨h5, l, v, h6, h7, h8.keep fun k hb hl => hk.block k hl (by simp; omega)⟩
/-- The map has been emptied. -/
theorem DiskAt.emptied {w w' : World} {d du mp base : Nat} {D : Dk} (h : DiskAt w d du mp base D) (hg : w.grownBy w' (some mp)) (hm : PM w' mp 0 (fun _ => none)) : DiskAt w' d du mp base { D with pend := fun _ => none, np := 0 } := by
  have hk : Kept [mp] w w' := (Kept.refl [mp] w).grown hg (fun k hk => by injection hk with e; subst e; exact .inl (by simp))
  have hne := h.ne
  exact ⟨hk.keep h.blk (by simp; exact hne.2.1), h.bytes.kept hk (by simp; exact hne.2.2), h.len, h.pos, hne, h.low, ⟨_, hm, fun i => .inl ⟨rfl, rfl⟩⟩, h.lft, h.lif, h.rng, Nat.le_trans h.base_le hk.size⟩

set_option maxRecDepth 100000 in
set_option maxHeartbeats 1000000 in
theorem settle_walk (d du mp base : Nat) (D : Dk) (w : World) (h : DiskAt w d du mp base D) :
    Calls Tryz.prog 85 #[.pointer (some ⟨d, 0, none⟩)] w fun e w' => e = .returned (.tuple #[]) ∧ DiskAt w' d du mp base { D with pend := fun _ => none, np := 0, pe := 0 } ∧ Kept [d, mp] w w' := by
  obtain ⟨_, c1, _⟩ := h.cells
  obtain ⟨m, hm, _⟩ := h.pend
  obtain ⟨w1, hcl, hm1, hg1, hs1⟩ := hm.clear sl44 0
  have H := Lib.hid h
  have H1 := Lib.hid (h.emptied hg1 hm1)
  have f9 := frozen_whole H1.out.blk 9
  have c9 := cell_whole H1.out.blk 9
  have hlt := lt_whole h.blk
  have hlt1 := lt_whole H1.out.blk
  have HK1 := Lib.hid ((Kept.refl [d, mp] w).grown hg1 (fun k hk => by injection hk with e; subst e; exact .inl (by simp)))
  have H2 := Lib.hid (H1.out.cell (D' := { D with pend := fun _ => none, np := 0, pe := 0 }) 9 (.int .i64 0) rfl rfl rfl rfl rfl H1.out.lft H1.out.lif ⟨H1.out.rng.1, H1.out.rng.2.1, H1.out.rng.2.2.1, H1.out.rng.2.2.2.1, show IntOk 0 by unfold IntOk; omega⟩)
  have HK2 := Lib.hid (HK1.out.setCell ⟨d, 9, none⟩ (.int .i64 0) (.inl (by simp)))
  clear h hm hm1 hg1
  go_enter Tryz.func85, Tryz.ntmps85
  go_wp2
  go_end0
  exact ⟨rfl, H2.out, HK2.out⟩

def mixd (D : Dk) (left : Nat → Bool) : Nat → List UInt8 := fun i => if left i = true then D.dur i else D.now i
def FlushPost (d du mp base : Nat) (D : Dk) (w : World) (e : Ending) (w' : World) : Prop := (D.burnt = true ∧ e = .returned (.int .i64 3) ∧ Kept [] w w') ∨
      (D.burnt = false ∧ e = .returned (.int .i64 0) ∧ DiskAt w' d du mp base D.flush ∧ Kept [d, du, mp] w w')

set_option maxRecDepth 100000 in
set_option maxHeartbeats 2000000 in
theorem flush_walk (d du mp base : Nat) (D : Dk) (w : World) (h : DiskAt w d du mp base D) :
    Calls Tryz.prog 33 #[.pointer (some ⟨d, 0, none⟩)] w (FlushPost d du mp base D w) := by
  have H := Lib.hid h
  have HB := Lib.hid (burnt_walk d du mp base D w h)
  have hlt := lt_whole h.blk
  have hS := h.pos
  have hne := h.ne
  obtain ⟨_, c1, _⟩ := h.cells
  obtain ⟨m, hm, hmp⟩ := h.pend
  have HMP := Lib.hid hmp
  obtain ⟨w0, cnt0, hrg, hr0, hcn, hg0, hs0⟩ := hm.range sl44
  clear h hmp hm
  cases hb : D.burnt with
  | true =>
    rw [hb] at HB
    go_enter Tryz.func33, Tryz.ntmps33
    go_wp2_with fail
    refine HB.out.mono ?_
    rintro e w1 ⟨rfl, rfl⟩
    go_wp2
    go_ret
    exact .inl ⟨hb, rfl, Kept.refl _ _⟩
  | false =>
    rw [hb] at HB
    have HK0 := Lib.hid ((Kept.refl [du] w).grown hg0 (fun k hk => by cases hk))
    have HR0 := Lib.hid hr0
    have HBY0 := Lib.hid (H.out.bytes.kept ((Kept.refl [] w).grown hg0 (fun k hk => by cases hk)) (by simp))
    have HD0 := Lib.hid (show mixd D (fun x => (m x).isSome) = D.dur from funext fun i => by
      show (if (m i).isSome = true then D.dur i else D.now i) = D.dur i
      rcases HMP.out i with ⟨h5, h6⟩ | ⟨_, l, v, h5, h6, _⟩
      · rw [h6]
        show D.now i = _
        unfold Dk.now
        rw [h5]; rfl
      · rw [h6]; rfl)
    clear hr0 hg0
    go_enter Tryz.func33, Tryz.ntmps33
    go_wp2_with fail
    refine HB.out.mono ?_
    rintro e w1 ⟨rfl, rfl⟩
    go_wp2_with fail
    go_loopw [] (fun wr => ∃ (left : Nat → Bool) (cnt : Nat), PMR wr mp w1.heap.size D.np m left cnt ∧ Kept [du] w1 wr ∧ Bytes wr du (secs (mixd D left) D.S)) (fun wr => wr.rangeLeft mp w1.heap.size)
    case atStart => exact ⟨_, _, HR0.out, HK0.out, by rw [HD0.out]; exact HBY0.out⟩
    case round =>
      obtain ⟨left, cnt, hpr, hkr, hbr⟩ := hrel
      have hlen : ∀ (left : Nat → Bool) i, i < D.S → (mixd D left i).length = 512 := fun left i hi => by
        unfold mixd
        split
        · exact H.out.len i hi
        · exact H.out.now_len hi
      have HLEN := Lib.hid hlen
      have HDR := Lib.hid (H.out.redur hkr (mixd D left) hbr (hlen left))
      have HPR := Lib.hid hpr
      have HKR := Lib.hid hkr
      have HBR := Lib.hid hbr
      have hnx := hpr.next 0
      clear hpr hkr hbr hlen
      rcases hnx with ⟨h0, hl0, hrun⟩ | ⟨x, v, w2, cnt', hx, hlx, hmx, hrun, hpr2, hct, hg2, hs2, hen⟩
      · have HMX := Lib.hid (show mixd D left = D.now from funext fun i => by
          show (if left i = true then D.dur i else D.now i) = D.now i
          rw [hl0 i]; rfl)
        have HST := Lib.hid (settle_walk d du mp base _ wr HDR.out)
        clear hl0
        go_wp2_with fail
        refine HST.out.mono ?_
        rintro e w3 ⟨rfl, hd3, hk3⟩
        have H3 := Lib.hid hd3
        have HK3 := Lib.hid (HKR.out.mono (G := [d, du, mp]) (by simp))
        have HK3 := Lib.hid (HK3.out.trans hk3 (by simp))
        obtain ⟨_, _, _, _, _, _, _, c7, _⟩ := hd3.cells
        have f7 := frozen_whole hd3.blk 7
        have hlt3 := lt_whole hd3.blk
        have H4 := Lib.hid (hd3.cell (D' := { D.settled with fl := wrap64 (D.fl + 1) }) 7 (.int .i64 (wrap64 (D.fl + 1))) rfl rfl (by rw [HMX.out]; rfl) rfl rfl hd3.lft hd3.lif ⟨hd3.rng.1, hd3.rng.2.1, wrap_ok _, hd3.rng.2.2.2⟩)
        have HK4 := Lib.hid (HK3.out.setCell ⟨d, 7, none⟩ (.int .i64 (wrap64 (D.fl + 1))) (.inl (by simp)))
        clear hd3 hk3 HST
        go_upto_region 9 with fail
        clear c7 f7
        generalize w3.setCell ⟨d, 7, none⟩ (.int .i64 (wrap64 (D.fl + 1))) = w4 at *
        have HSP := Lib.hid (spend_walk d du mp base _ w4 H4.out hb)
        go_wp2_with fail
        refine HSP.out.mono ?_
        rintro e w8 ⟨rfl, hd8, hk8⟩
        go_wp2
        go_ret
        exact .inr ⟨hb, rfl, hd8, HK4.out.trans hk8 (by simp)⟩
      · obtain ⟨l, hpx, hxS⟩ : ∃ l, D.pend x = some l ∧ x < D.S := by
          rcases HMP.out x with ⟨_, h6⟩ | ⟨h4, l, v, h5, _⟩
          · rw [hmx] at h6; cases h6
          · exact ⟨l, h5, h4⟩
        have HK2 := Lib.hid (HKR.out.trans (G := [w1.heap.size]) ((Kept.refl [w1.heap.size] wr).grown hg2 (fun k hk => by injection hk with e; subst e; exact .inl (by simp))) (by simp))
        have hdl := H.out.low
        have hbl := H.out.base_le
        have HBR2 := Lib.hid (show Bytes w2 du (secs (mixd D left) D.S) from (hg2.block du (lt_whole HBR.out) (fun e => by injection e with e; omega)).trans HBR.out)
        have HD2 := Lib.hid (H.out.redur HK2.out (mixd D left) HBR2.out (HLEN.out left))
        have HPX := Lib.hid hpx
        have HPR2 := Lib.hid hpr2
        have HH := Lib.hid (home_walk d du mp base _ w2 HD2.out x hxS)
        have HN := Lib.hid (now_walk d du mp base _ w2 HD2.out x hxS)
        clear hg2 hpr2 hpx hmx hlx
        go_wp2_with fail
        refine HH.out.mono ?_
        rintro e w3 ⟨rfl, rfl⟩
        go_wp2_with fail
        refine HN.out.mono ?_
        rintro e w4 ⟨a, c, rfl, hba, rfl⟩
        have hnl := HD2.out.now_len hxS
        have HNE := Lib.hid (show Dk.now { D with dur := mixd D left } x = D.now x by unfold Dk.now; rw [HPX.out]; rfl)
        rw [HNE.out] at hba hnl
        have hsl := secs_length (HLEN.out left)
        obtain ⟨w5, hcp, hb5, hk5⟩ := copy_sector w4 du (512 * x) (512 * D.S - 512 * x) (secs (mixd D left) D.S) (D.now x) a c HBR2.out hba hnl (by rw [hsl]; omega) 3 (fun dLen h1 h2 h3 => copy_bytes w4 _ _ dLen _ _ _ a c HBR2.out hba h1 h2 h3 3)
        rw [secs_over (HLEN.out left) hxS hnl, show upd (mixd D left) x (D.now x) = mixd D (fun y => left y && !(y == x)) from funext fun y => by
          show (if y = x then D.now x else if left y = true then D.dur y else D.now y) = if (left y && !(y == x)) = true then D.dur y else D.now y
          by_cases e : y = x
          · subst e; simp
          · simp [e]] at hb5
        have HB5 := Lib.hid hb5
        have HK5 := Lib.hid hk5
        clear hb5 hk5 hba hnl hsl
        go_wp2
        go_roundw
        case rel => exact ⟨_, _, HPR2.out.keep (HK5.out.block mp HPR2.out.owns.lt (by simp; omega)) (HK5.out.block _ HPR2.out.lt (by simp; omega)), HK2.out.trans HK5.out (by simp), HB5.out⟩
        case measure =>
          rw [(HPR2.out.keep (HK5.out.block mp HPR2.out.owns.lt (by simp; omega)) (HK5.out.block _ HPR2.out.lt (by simp; omega))).left_eq, HPR.out.left_eq]
          exact hct
end Go.Proofs.YtikfphojehgpjaaGreatDoor
/- The disk: New, Load, Fuse, Image, Counts. -/
namespace Go.Proofs.YtikfphojehgpjaaGreatDoor
open Go.RowKit Vl Go.Maps Go.ChangeMaps
set_option linter.unusedVariables false

theorem secs_zero (n : Nat) : secs (fun _ => zsec) n = List.replicate (512 * n) 0 := by
  induction n with
  | zero => rfl
  | succ n ih =>
    rw [secs, ih]
    unfold zsec
    rw [List.replicate_append_replicate, Nat.mul_succ]
def chunk (l : List UInt8) : Nat → List UInt8 := fun i => (l.drop (512 * i)).take 512
theorem chunk_length {l : List UInt8} {n i : Nat} (h : l.length = 512 * n) (hi : i < n) : (chunk l i).length = 512 := by
  unfold chunk
  rw [List.length_take, List.length_drop]; omega
theorem secs_chunk {l : List UInt8} : ∀ {n : Nat}, 512 * n ≤ l.length → secs (chunk l) n = l.take (512 * n)
  | 0, _ => by simp [secs]
  | n + 1, h => by
    rw [secs, secs_chunk (by omega)]
    unfold chunk
    rw [Nat.mul_succ, List.take_add]

/-- A new disk. -/
def Dk.fresh (S : Nat) (f : Nat → List UInt8) : Dk := { S := S, dur := f, pend := fun _ => none, np := 0, fused := false, left := 0, life := 1, rd := 0, wr := 0, fl := 0, rf := 0, pe := 0 }
def NewPost (s : Int) (w : World) (e : Ending) (w' : World) : Prop := Kept [] w w' ∧
  ((¬ (1 ≤ s ∧ s ≤ 2048) ∧ e = .returned (.tuple #[.pointer none, .int .i64 10])) ∨
   (1 ≤ s ∧ s ≤ 2048 ∧ ∃ d du mp, w.heap.size ≤ d ∧ w.heap.size ≤ du ∧ w.heap.size ≤ mp ∧ e = .returned (.tuple #[.pointer (some ⟨d, 0, none⟩), .int .i64 0]) ∧ DiskAt w' d du mp w'.heap.size (Dk.fresh s.toNat (fun _ => zsec))))

set_option maxRecDepth 100000 in
set_option maxHeartbeats 1000000 in
theorem new_walk (s : Int) (w : World) (hs : IntOk s) : Calls Tryz.prog 4 #[.int .i64 s] w (NewPost s w) := by
  unfold IntOk at hs
  by_cases h1 : s < 1
  · have t1 : decide (s < 1) = true := decide_eq_true h1
    have HN := Lib.hid (show ¬ (1 ≤ s ∧ s ≤ 2048) by omega)
    clear h1
    go_enter Tryz.func4, Tryz.ntmps4
    go_wp2
    go_ret2
    exact ⟨Kept.refl _ _, .inl ⟨HN.out, rfl⟩⟩
  · have t1 : decide (s < 1) = false := decide_eq_false h1
    by_cases h2 : 2048 < s
    · have t2 : decide (2048 < s) = true := decide_eq_true h2
      have HN := Lib.hid (show ¬ (1 ≤ s ∧ s ≤ 2048) by omega)
      clear h1 h2
      go_enter Tryz.func4, Tryz.ntmps4
      go_wp2
      go_ret2
      exact ⟨Kept.refl _ _, .inl ⟨HN.out, rfl⟩⟩
    · have t2 : decide (2048 < s) = false := decide_eq_false h2
      obtain ⟨n, rfl⟩ : ∃ n : Nat, s = n := ⟨s.toNat, by omega⟩
      have hn : 1 ≤ n ∧ n ≤ 2048 := by omega
      have hmk := make_bytes w (512 * n) (by omega)
      obtain ⟨z, hz⟩ : ∃ z, z = List.replicate (512 * n) (0 : UInt8) := ⟨_, rfl⟩
      rw [← hz] at hmk
      have HZ := Lib.hid (hz.trans (secs_zero n).symm)
      have hmm := @run_makeMap Tryz.prog
      have e1 : ((512 * n : Nat) : Int) = (n : Int) * 512 := by omega
      rw [e1] at hmk
      clear h1 h2 hz
      go_enter Tryz.func4, Tryz.ntmps4
      go_wp2
      go_ret2
      have hB := heap_alloc_new w (.cells (bcells z).toArray 5)
      have hM := PM.made (w.alloc (.cells (bcells z).toArray 5))
      rw [size_alloc] at hM
      obtain ⟨C, hC⟩ : ∃ C, C = diskCells (Dk.fresh n (fun _ => zsec)) w.heap.size (w.heap.size + 1) := ⟨_, rfl⟩
      have hD := heap_alloc_new ((w.alloc (.cells (bcells z).toArray 5)).alloc (.map #[] 0)) (.cells C 46)
      rw [size_alloc, size_alloc] at hD
      refine ⟨(((Kept.refl [] w).alloc _).alloc _).alloc _, .inr ⟨by omega, by omega, w.heap.size + 1 + 1, w.heap.size, w.heap.size + 1, by omega, by omega, by omega, rfl, ?_⟩⟩
      show DiskAt (((w.alloc (.cells (bcells z).toArray 5)).alloc (.map #[] 0)).alloc (.cells (diskCells (Dk.fresh n (fun _ => zsec)) w.heap.size (w.heap.size + 1)) 46)) _ _ _ _ (Dk.fresh n (fun _ => zsec))
      rw [← hC]
      refine ⟨by rw [hD, hC], ?_, fun i _ => zsec_length, hn, by omega, by simp only [size_alloc]; omega, ⟨_, hM.keep (Below.heap_alloc _ _ _ (by simp only [size_alloc]; omega)), fun i => .inl ⟨rfl, rfl⟩⟩, by show 0 ≤ _; omega, by show 1 ≤ _; omega, ?_, by simp only [size_alloc]; omega⟩
      · show Bytes _ _ (secs (fun _ => zsec) n)
        rw [← HZ.out]
        exact alloc_whole (alloc_whole hB)
      · have : IntOk 0 := by unfold IntOk; omega
        exact ⟨this, this, this, this, this⟩

def LoadPost (l : List UInt8) (w : World) (e : Ending) (w' : World) : Prop := Kept [] w w' ∧
  ((l.length % 512 ≠ 0 ∧ e = .returned (.tuple #[.pointer none, .int .i64 2])) ∨
   (l.length % 512 = 0 ∧ ¬ (1 ≤ l.length / 512 ∧ l.length / 512 ≤ 2048) ∧ e = .returned (.tuple #[.pointer none, .int .i64 10])) ∨
   (l.length % 512 = 0 ∧ 1 ≤ l.length / 512 ∧ l.length / 512 ≤ 2048 ∧ ∃ d du mp, w.heap.size ≤ d ∧ w.heap.size ≤ du ∧ w.heap.size ≤ mp ∧ e = .returned (.tuple #[.pointer (some ⟨d, 0, none⟩), .int .i64 0]) ∧ DiskAt w' d du mp w'.heap.size (Dk.fresh (l.length / 512) (chunk l))))

theorem DiskAt.rebase {w : World} {d du mp base b : Nat} {D : Dk} (h : DiskAt w d du mp base D) (hp : ∀ i, D.pend i = none) (hb : base ≤ b) (hw : b ≤ w.heap.size) : DiskAt w d du mp b D := by
  obtain ⟨m, hm, hq⟩ := h.pend
  have hlow := h.low
  refine ⟨h.blk, h.bytes, h.len, h.pos, h.ne, by omega, ⟨m, hm, fun i => ?_⟩, h.lft, h.lif, h.rng, hw⟩
  rcases hq i with h1 | ⟨_, l, v, h1, _⟩
  · exact .inl h1
  · rw [hp i] at h1; cases h1

set_option maxRecDepth 100000 in
set_option maxHeartbeats 1000000 in
theorem load_walk (l : List UInt8) (a : Option Addr) (c : Nat) (w : World) (hl : BytesAt w a l) (h0 : 0 < l.length) (hm : l.length ≤ 140737488355328) : Calls Tryz.prog 5 #[.slice a l.length c] w (LoadPost l w) := by
  have HL := Lib.hid hl
  clear hl
  have e1 : (l.length : Int).tmod 512 = ((l.length % 512 : Nat) : Int) := by rw [Int.tmod_eq_emod_of_nonneg (by omega)]; omega
  have e2 : (l.length : Int).tdiv 512 = ((l.length / 512 : Nat) : Int) := by rw [Int.tdiv_eq_ediv_of_nonneg (by omega)]; omega
  by_cases h1 : l.length % 512 = 0
  · have t1 : (((l.length % 512 : Nat) : Int) != 0) = false := by rw [h1]; rfl
    have HLN := Lib.hid (show l.length = 512 * (l.length / 512) by omega)
    obtain ⟨n, hn⟩ : ∃ n, n = l.length / 512 := ⟨_, rfl⟩
    rw [← hn] at e2 HLN
    have HW := Lib.hid (new_walk n w (by unfold IntOk; omega))
    have HP : Hid (∀ e w', (Kept [] w w' ∧ ((¬ (1 ≤ n ∧ n ≤ 2048) ∧ e = Ending.returned (.tuple #[.pointer none, .int .i64 10])) ∨
        (1 ≤ n ∧ n ≤ 2048 ∧ ∃ d du mp, w.heap.size ≤ d ∧ w.heap.size ≤ du ∧ w.heap.size ≤ mp ∧ e = .returned (.tuple #[.pointer (some ⟨d, 0, none⟩), .int .i64 0]) ∧ DiskAt w' d du mp w'.heap.size (Dk.fresh n (chunk l))))) → LoadPost l w e w') := Lib.hid (by
      rintro e w' ⟨hk, hc⟩
      rw [hn] at hc
      exact ⟨hk, .inr (hc.imp (fun x => ⟨h1, x⟩) (fun x => ⟨h1, x⟩))⟩)
    have hn3 : n ≤ 140737488355328 := by omega
    clear h1 hn
    go_enter Tryz.func5, Tryz.ntmps5
    go_wp2_with fail
    refine HW.out.mono ?_
    rintro e w' ⟨hk, hc⟩
    rcases hc with ⟨hnn, rfl⟩ | ⟨hn1, hn2, d, du, mp, hd1, hd2, hd3, rfl, hD⟩
    · have HR := Lib.hid (HP.out _ w' ⟨hk, .inl ⟨by omega, rfl⟩⟩)
      clear hk hnn
      go_wp2
      go_ret2
      exact HR.out
    · have hn1' : 1 ≤ n := by omega
      have hn2' : n ≤ 2048 := by omega
      rw [Int.toNat_natCast] at hD
      have HD := Lib.hid hD
      have HK := Lib.hid hk
      obtain ⟨c0, _⟩ := hD.cells
      have hlt := lt_whole hD.blk
      rw [show (Dk.fresh n (fun _ => zsec)).S = n from rfl] at c0
      have HB := Lib.hid (show Bytes w' du (secs (fun _ => zsec) n) from hD.bytes)
      have hsl := secs_length (f := fun _ => zsec) (n := n) (fun i _ => zsec_length)
      obtain ⟨w2, hcp, hb2, hk2⟩ := copy_bytes w' du 0 (512 * n) (512 * n) (secs (fun _ => zsec) n) l a c HB.out (HL.out.below hk.below) HLN.out (by rw [hsl]; have := HLN.out; omega) h0 3
      rw [over_all (by rw [hsl]; exact HLN.out)] at hb2
      have HK2 := Lib.hid hk2
      have HB2 := Lib.hid hb2
      have hsz := hk2.size
      have HD2 := Lib.hid ((HD.out.redur HK2.out (chunk l) (show Bytes w2 du (secs (chunk l) n) by rw [secs_chunk (by have := HLN.out; omega), ← HLN.out, List.take_length]; exact HB2.out) (fun i hi => chunk_length HLN.out hi)).rebase (fun i => rfl) hsz (Nat.le_refl _))
      have HR := Lib.hid (HP.out _ w2 ⟨HK.out.trans HK2.out (by simp; exact hd2), .inr ⟨hn1', hn2', d, du, mp, hd1, hd2, hd3, rfl, HD2.out⟩⟩)
      clear hb2 hk2 hsl hk hD hn1 hn2
      go_wp2
      go_ret2
      exact HR.out
  · have t1 : (((l.length % 512 : Nat) : Int) != 0) = true := bne_iff_ne.2 (by omega)
    have HN := Lib.hid h1
    clear h1
    go_enter Tryz.func5, Tryz.ntmps5
    go_wp2
    go_ret2
    exact ⟨Kept.refl _ _, .inl ⟨HN.out, rfl⟩⟩

def Dk.fuse (D : Dk) (n : Int) : Dk := if D.burnt = true then D else { D with fused := decide (0 ≤ n), left := (max n 0).toNat }
set_option maxHeartbeats 1000000 in
theorem fuse_walk (d du mp base : Nat) (D : Dk) (w : World) (h : DiskAt w d du mp base D) (n : Int) (hn : IntOk n) (hb : D.burnt = false) :
    Calls Tryz.prog 6 #[.pointer (some ⟨d, 0, none⟩), .int .i64 n] w fun e w' => e = .returned (.tuple #[]) ∧ DiskAt w' d du mp base (D.fuse n) ∧ Kept [d] w w' := by
  unfold IntOk at hn
  have HB := Lib.hid (burnt_walk d du mp base D w h)
  rw [hb] at HB
  have f2 := frozen_whole h.blk 2
  have hlt := lt_whole h.blk
  obtain ⟨_, _, c2, c3, _⟩ := h.cells
  have HF := Lib.hid (show D.fuse n = { D with fused := decide (0 ≤ n), left := (max n 0).toNat } by unfold Dk.fuse; rw [hb]; rfl)
  have key : ∀ (b : Bool) (m : Int), decide (0 ≤ n) = b → max n 0 = m → Hid (DiskAt ((w.setCell ⟨d, 2, none⟩ (.bool b)).setCell ⟨d, 3, none⟩ (.int .i64 m)) d du mp base (D.fuse n) ∧ (w.setCell ⟨d, 2, none⟩ (.bool b)).frozen? ⟨d, 3, none⟩ = false ∧ (w.setCell ⟨d, 2, none⟩ (.bool b)).cell? ⟨d, 3, none⟩ = some (.int .i64 D.left) ∧ Kept [d] w ((w.setCell ⟨d, 2, none⟩ (.bool b)).setCell ⟨d, 3, none⟩ (.int .i64 m))) := fun b m e1 e2 => Lib.hid (by
    subst e1
    subst e2
    have H1 := h.cell (D' := { D with fused := decide (0 ≤ n) }) 2 (.bool (decide (0 ≤ n))) rfl rfl rfl rfl rfl h.lft h.lif h.rng
    have HK1 := (Kept.refl [d] w).setCell ⟨d, 2, none⟩ (.bool (decide (0 ≤ n))) (.inl (by simp))
    obtain ⟨_, _, _, c3', _⟩ := H1.cells
    refine ⟨H1.cell (D' := D.fuse n) 3 (.int .i64 (max n 0)) (by rw [HF.out]; show _ = diskCells _ _ _; unfold diskCells; rw [show ((max n 0).toNat : Int) = max n 0 by omega]; rfl) (by rw [HF.out]) (by rw [HF.out]) (by rw [HF.out]) (by rw [HF.out]) (by rw [HF.out]; show (max n 0).toNat ≤ _; omega) (by rw [HF.out]; exact h.lif) (by rw [HF.out]; exact h.rng), frozen_whole H1.blk 3, c3', HK1.setCell _ _ (.inl (by simp))⟩)
  clear h
  by_cases h0 : 0 ≤ n
  · have hk := key true n (decide_eq_true h0) (by omega)
    have f3 := hk.out.2.1
    have c3' := hk.out.2.2.1
    have t1 : decide (0 ≤ n) = true := decide_eq_true h0
    clear key
    go_enter Tryz.func6, Tryz.ntmps6
    go_wp2_with fail
    refine HB.out.mono ?_
    rintro e w1 ⟨rfl, rfl⟩
    go_wp2
    go_end0
    exact ⟨rfl, hk.out.1, hk.out.2.2.2⟩
  · have hk := key false 0 (decide_eq_false h0) (by omega)
    have f3 := hk.out.2.1
    have c3' := hk.out.2.2.1
    have t1 : decide (0 ≤ n) = false := decide_eq_false h0
    clear key
    go_enter Tryz.func6, Tryz.ntmps6
    go_wp2_with fail
    refine HB.out.mono ?_
    rintro e w1 ⟨rfl, rfl⟩
    go_wp2
    go_end0
    exact ⟨rfl, hk.out.1, hk.out.2.2.2⟩
end Go.Proofs.YtikfphojehgpjaaGreatDoor
/- The disk: Image, Counts. -/
namespace Go.Proofs.YtikfphojehgpjaaGreatDoor
open Go.RowKit Vl Go.Maps Go.ChangeMaps
set_option linter.unusedVariables false

def ImagePost (D : Dk) (w : World) (e : Ending) (w' : World) : Prop := Kept [] w w' ∧ ∃ g, w.heap.size ≤ g ∧ e = .returned (.slice (some ⟨g, 0, none⟩) (512 * D.S) (512 * D.S)) ∧ Bytes w' g (secs D.dur D.S)
set_option maxRecDepth 100000 in
set_option maxHeartbeats 1000000 in
theorem image_walk (d du mp base : Nat) (D : Dk) (w : World) (h : DiskAt w d du mp base D) :
    Calls Tryz.prog 14 #[.pointer (some ⟨d, 0, none⟩)] w (ImagePost D w) := by
  obtain ⟨c0, _⟩ := h.cells
  have hS := h.pos
  have hsl := secs_length h.len
  obtain ⟨n, hn⟩ : ∃ n, n = 512 * D.S := ⟨_, rfl⟩
  obtain ⟨z, hz⟩ : ∃ z, z = List.replicate n (0 : UInt8) := ⟨_, rfl⟩
  have hmk := make_bytes w n (by omega)
  rw [← hz] at hmk
  have hzl : z.length = n := by rw [hz, List.length_replicate]
  have hlt := lt_whole h.blk
  have HK1 := Lib.hid ((Kept.refl [] w).alloc (.cells (bcells z).toArray 5))
  have HD1 := Lib.hid (h.kept0 HK1.out)
  have HB1 := Lib.hid (show Bytes (w.alloc (.cells (bcells z).toArray 5)) w.heap.size z from heap_alloc_new w _)
  have HP : Hid (∀ e w', (Kept [] w w' ∧ ∃ g, w.heap.size ≤ g ∧ e = Ending.returned (.slice (some ⟨g, 0, none⟩) n n) ∧ Bytes w' g (secs D.dur D.S)) → ImagePost D w e w') := Lib.hid (by
    rintro e w' x
    rw [hn] at x
    exact x)
  rw [← hn] at c0 hsl
  have c0' := HD1.out.cells.1
  rw [← hn] at c0'
  obtain ⟨w2, hcp, hb2, hk2⟩ := copy_bytes (w.alloc (.cells (bcells z).toArray 5)) w.heap.size 0 n n z (secs D.dur D.S) (some ⟨du, 0, none⟩) n HB1.out HD1.out.bytes.at hsl (by rw [hsl, hzl]; omega) (by rw [hsl]; omega) 3
  rw [over_all (by rw [hsl, hzl])] at hb2
  rw [hsl] at hcp
  have hnl : n ≤ 1048576 := by omega
  have HR := Lib.hid (HP.out _ w2 ⟨HK1.out.trans hk2 (by simp), _, Nat.le_refl _, rfl, hb2⟩)
  clear hz hn hb2 hk2 hsl h hS hzl
  go_enter Tryz.func14, Tryz.ntmps14
  go_wp2
  go_ret
  exact HR.out

def CountsPost (D : Dk) (w : World) (e : Ending) (w' : World) : Prop := Kept [] w w' ∧ e = .returned (.agg #[.int .i64 D.rd, .int .i64 D.wr, .int .i64 D.fl, .int .i64 D.rf, .int .i64 D.pe])
set_option maxRecDepth 100000 in
set_option maxHeartbeats 1000000 in
theorem counts_walk (d du mp base : Nat) (D : Dk) (w : World) (h : DiskAt w d du mp base D) :
    Calls Tryz.prog 11 #[.pointer (some ⟨d, 0, none⟩)] w (CountsPost D w) := by
  have HK1 := Lib.hid ((Kept.refl [] w).alloc (.cells #[.int .i64 0, .int .i64 0, .int .i64 0, .int .i64 0, .int .i64 0] 37))
  have HD1 := Lib.hid (h.kept0 HK1.out)
  obtain ⟨_, _, _, _, _, c5, c6, c7, c8, c9⟩ := HD1.out.cells
  have hlt := lt_whole h.blk
  clear h
  go_enter Tryz.func11, Tryz.ntmps11
  go_wp2
  refine bodyPost_ret (results_cell_row (P := Tryz.prog) (p := 2) (ty := 37) rfl _ _ w.heap.size 37 _ (0, 0) _ rfl (heap_alloc_new w _) Tryz.underlying37 rfl (by kernel_rfl)) rfl ?_
  exact ⟨(Kept.refl [] w).alloc _, rfl⟩
end Go.Proofs.YtikfphojehgpjaaGreatDoor
