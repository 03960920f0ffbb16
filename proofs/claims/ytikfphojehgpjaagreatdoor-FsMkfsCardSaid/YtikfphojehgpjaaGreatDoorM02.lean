/- A region that draws its order, walked once in the order of its text: where operations that may change places do not disturb one another, every order that the edges allow ends as the text's own order does. Plain lemmas on the model; no program in sight. -/
import Derived.Orders
import Derived.Tactics
set_option linter.unusedSimpArgs false
set_option linter.unusedVariables false
namespace Vl
open Go
set_option linter.unusedVariables false

/-! ### Computations that only look at the program -/
def dies {α : Type} (P : Program) : Sem α → Prop
  | .halt _ => True
  | .program k => dies P (k P)
  | .new _ k => ∀ r, dies P (k r)
  | .choose _ k => ∀ n, dies P (k n)
  | _ => False

def light {α : Type} (P : Program) (rd : Bool) : Sem α → Prop
  | .pure _ => True
  | .halt _ => True
  | .program k => light P rd (k P)
  | .load _ _ k => rd = true ∧ ∀ v, light P rd (k v)
  | .getObj _ k => rd = true ∧ ∀ o, light P rd (k o)
  | .new _ k => ∀ r, dies P (k r)
  | .choose _ k => ∀ n, dies P (k n)
  | _ => False

theorem dies_bind {α β : Type} {P : Program} {s : Sem α} {f : α → Sem β} (h : dies P s) : dies P (s.bind f) := by
  induction s with
  | halt _ => trivial
  | program k ih => exact ih P h
  | new o k ih => exact fun r => ih r (h r)
  | choose q k ih => exact fun n => ih n (h n)
  | _ => exact h.elim

theorem light_bind {α β : Type} {P : Program} {rd : Bool} {s : Sem α} {f : α → Sem β} (h : light P rd s) (hf : ∀ a, light P rd (f a)) : light P rd (s.bind f) := by
  induction s with
  | pure a => exact hf a
  | halt _ => trivial
  | program k ih => exact ih P h
  | load m a k ih => exact ⟨h.1, fun v => ih v (h.2 v)⟩
  | getObj r k ih => exact ⟨h.1, fun v => ih v (h.2 v)⟩
  | new o k ih => exact fun r => dies_bind (h r)
  | choose q k ih => exact fun n => dies_bind (h n)
  | _ => exact h.elim

theorem light_of_dies {α : Type} {P : Program} {rd : Bool} {s : Sem α} (h : dies P s) : light P rd s := by
  induction s with
  | halt _ => trivial
  | program k ih => exact ih P h
  | new o k ih => exact h
  | choose q k ih => exact h
  | _ => exact h.elim

theorem light_up {α : Type} {P : Program} {s : Sem α} (h : light P false s) : light P true s := by
  induction s with
  | pure a => trivial
  | halt _ => trivial
  | program k ih => exact ih P h
  | load m a k ih => exact absurd h.1 (by simp)
  | getObj r k ih => exact absurd h.1 (by simp)
  | new o k ih => exact h
  | choose q k ih => exact h
  | _ => exact h.elim

theorem run_dies {α : Type} {P : Program} {s : Sem α} (h : dies P s) : ∀ w v w', s.run P w ≠ .ok v w' := by
  induction s with
  | halt _ => intro w v w'; simp [Sem.run]
  | program k ih => intro w v w'; exact ih P h w v w'
  | new o k ih => intro w v w'; exact ih _ (h _) _ v w'
  | choose q k ih =>
    intro w v w'
    simp only [Sem.run]
    split
    · exact ih _ (h _) _ _ _
    · exact ih _ (h _) _ _ _
  | _ => exact h.elim

/-- Every block of w is in w' as it was. -/
def Ext (w w' : World) : Prop := ∀ k, k < w.heap.size → w'.heap[k]? = w.heap[k]?

theorem Ext.refl (w : World) : Ext w w := fun _ _ => rfl
theorem Ext.some {w w' : World} (h : Ext w w') {k : Nat} {o : Obj} (hk : w.heap[k]? = some o) : w'.heap[k]? = some o := by
  have : k < w.heap.size := by
    rcases Nat.lt_or_ge k w.heap.size with h | h
    · exact h
    · simp [Array.getElem?_eq_none h] at hk
  rw [h k this, hk]

theorem seen_ext {P : Program} {w w' : World} (h : Ext w w') {at_ : Addr} {u : TypeId} {k : Addr} {b : Bool} {r : _} (hr : w.seen P at_ u k b = .ok r) : w'.seen P at_ u k b = .ok r := by
  cases hb : w.heap[at_.block]? with
  | some o =>
    have hb' := h.some hb
    rw [← hr]
    unfold World.seen
    rw [hb, hb']
  | none =>
    exfalso
    unfold World.seen at hr
    rw [hb] at hr
    simp only [bind, Except.bind] at hr
    repeat (split at hr <;> try (cases hr; done))

theorem farLoad_ext {P : Program} {w w' : World} (h : Ext w w') {a : Addr} {b : Bool} {r : _} (hr : w.farLoad P a b = .ok r) : w'.farLoad P a b = .ok r := by
  unfold World.farLoad at hr ⊢
  cases hb : w.heap[a.block]? with
  | none => rw [hb] at hr; simp at hr
  | some o =>
    rw [h.some hb]
    rw [hb] at hr
    cases o with
    | view at_ u =>
      simp only at hr ⊢
      cases hv : w.viewLoad P at_ u a b with
      | error e => rw [hv] at hr; cases hr
      | ok x =>
        rw [hv] at hr
        have : w'.viewLoad P at_ u a b = .ok x := by
          unfold World.viewLoad at hv ⊢
          cases hs : w.seen P at_ u a b with
          | error e => rw [hs] at hv; cases hv
          | ok y => rw [hs] at hv; rw [seen_ext h hs]; exact hv
        rw [this]; exact hr
    | _ => simp at hr

theorem cell_ext {w w' : World} (h : Ext w w') {a : Addr} {v : Value} (hc : w.cell? a = some v) : w'.cell? a = some v := by
  unfold World.cell? at hc ⊢
  cases hb : w.heap[a.block]? with
  | none => rw [hb] at hc; simp at hc
  | some o => rw [h.some hb]; rw [hb] at hc; exact hc

theorem cell_none_ext {w w' : World} (h : Ext w w') {a : Addr} (hb : w.heap[a.block]? ≠ none) (hc : w.cell? a = none) : w'.cell? a = none := by
  unfold World.cell? at hc ⊢
  cases hb' : w.heap[a.block]? with
  | none => exact absurd hb' hb
  | some o => rw [h.some hb']; rw [hb'] at hc; exact hc

theorem run_light {α : Type} {P : Program} {rd : Bool} {s : Sem α} (h : light P rd s) : ∀ {w : World} {v : α} {w1 : World}, s.run P w = .ok v w1 →
    w1 = w ∧ ∀ w', (rd = true → Ext w w') → s.run P w' = .ok v w' := by
  induction s with
  | pure a => intro w v w1 hr; simp [Sem.run] at hr; obtain ⟨rfl, rfl⟩ := hr; exact ⟨rfl, fun w' _ => rfl⟩
  | halt _ => intro w v w1 hr; simp [Sem.run] at hr
  | program k ih => intro w v w1 hr; exact ih P h hr
  | load m a k ih =>
    intro w v w1 hr
    simp only [Sem.run] at hr ⊢
    cases hc : w.cell? a with
    | some x =>
      rw [hc] at hr
      obtain ⟨e, hst⟩ := ih x (h.2 x) hr
      refine ⟨e, fun w' he => ?_⟩
      rw [cell_ext (he h.1) hc]
      exact hst w' he
    | none =>
      rw [hc] at hr
      simp only at hr
      cases hf : w.farLoad P a (m == .atomic) with
      | error e => rw [hf] at hr; cases hr
      | ok r =>
        obtain ⟨x, l⟩ := r
        rw [hf] at hr
        obtain ⟨e, hst⟩ := ih x (h.2 x) hr
        refine ⟨e, fun w' he => ?_⟩
        have hb : w.heap[a.block]? ≠ none := by
          intro hn
          unfold World.farLoad at hf
          rw [hn] at hf
          cases hf
        rw [cell_none_ext (he h.1) hb hc, farLoad_ext (he h.1) hf]
        exact hst w' he
  | getObj r k ih =>
    intro w v w1 hr
    simp only [Sem.run] at hr ⊢
    cases hc : w.heap[r]? with
    | none => rw [hc] at hr; cases hr
    | some o =>
      rw [hc] at hr
      cases o <;> try (cases hr; done)
      all_goals
        dsimp only at hr
        obtain ⟨e, hst⟩ := ih _ (h.2 _) hr
        refine ⟨e, fun w' he => ?_⟩
        rw [(he h.1).some hc]
        exact hst w' he
  | new o k ih => intro w v w1 hr; exact absurd hr (run_dies (h _) _ _ _)
  | choose q k ih =>
    intro w v w1 hr
    simp only [Sem.run] at hr
    split at hr
    · exact absurd hr (run_dies (h _) _ _ _)
    · exact absurd hr (run_dies (h _) _ _ _)
  | _ => exact h.elim

/-! ### The operations -/
section
variable {P : Program} {rd : Bool} {α β : Type}
theorem lb {s : Sem α} {f : α → Sem β} (h : light P rd s) (hf : ∀ a, light P rd (f a)) : light P rd (s >>= f) := light_bind h hf
theorem lp (a : α) : light P rd (pure a : Sem α) := trivial
theorem lhalt (h : Halt) : light P rd (.halt h : Sem α) := trivial
theorem l_stuck (s : String) : light P rd (stuck s : Sem α) := trivial
theorem l_unsupported (u : Unsupported) : light P rd (unsupported u : Sem α) := trivial
theorem l_program : light P rd program := trivial
theorem l_typeInfo (t : TypeId) : light P rd (typeInfo t) := by
  unfold typeInfo
  refine lb l_program fun p => ?_
  split <;> first | exact lp _ | exact l_stuck _
theorem l_underlying (t : TypeId) : light P rd (underlying t) := by
  unfold underlying
  refine lb l_program fun p => ?_
  split <;> first | exact lp _ | exact l_stuck _
theorem l_sizeOf (t : TypeId) : light P rd (sizeOf t) := lb (l_typeInfo t) fun _ => lp _
theorem l_isAgg (t : TypeId) : light P rd (isAgg t) := by
  unfold isAgg
  refine lb (l_underlying t) fun d => ?_
  split <;> exact lp _
theorem l_zeroValue (t : TypeId) : light P rd (zeroValue t) := by
  unfold zeroValue
  refine lb (l_typeInfo t) fun d => ?_
  split <;> first | exact lp _ | exact l_unsupported _
theorem db {s : Sem α} {f : α → Sem β} (h : light P false s) (hf : ∀ a, dies P (f a)) : dies P (s >>= f) := by
  show dies P (s.bind f)
  induction s with
  | pure a => exact hf a
  | halt _ => trivial
  | program k ih => exact ih P h
  | load m a k ih => exact absurd h.1 (by simp)
  | getObj r k ih => exact absurd h.1 (by simp)
  | new o k ih => exact fun r => dies_bind (h r)
  | choose q k ih => exact fun n => dies_bind (h n)
  | _ => exact h.elim
theorem l_elemOf (t : TypeId) : light P rd (elemOf t) := by
  unfold elemOf
  refine lb (l_underlying t) fun d => ?_
  split <;> first | exact lp _ | exact l_stuck _
theorem d_runtimePanic (e : RuntimeError) : dies P (runtimePanic e : Sem α) := by
  unfold runtimePanic
  refine db l_program fun p => ?_
  cases e <;> first | trivial | skip
  · exact db (l_elemOf _) fun t => fun r => trivial
  · exact db (l_elemOf _) fun t => fun r => trivial
theorem l_runtimePanic (e : RuntimeError) : light P rd (runtimePanic e : Sem α) := light_of_dies (d_runtimePanic e)
theorem d_boundsPanic (k : IntKind) (x y : Int) (c : BoundsCode) : dies P (boundsPanic k x y c : Sem α) := by
  unfold boundsPanic
  dsimp only
  split
  · intro n
    exact db (s := (pure (n == 1) : Sem Bool)) (lp _) fun _ => d_runtimePanic _
  · exact db (lp _) fun _ => d_runtimePanic _
theorem l_boundsPanic (k : IntKind) (x y : Int) (c : BoundsCode) : light P rd (boundsPanic k x y c : Sem α) := light_of_dies (d_boundsPanic k x y c)
theorem l_asIntOf (v : Value) : light P rd (asIntOf v) := by
  unfold asIntOf; split <;> first | exact lp _ | exact lhalt _
theorem l_asBool (v : Value) : light P rd (asBool v) := by
  unfold asBool; split <;> first | exact lp _ | exact lhalt _
theorem l_asAgg (v : Value) : light P rd (asAgg v) := by
  unfold asAgg; split <;> first | exact lp _ | exact lhalt _
theorem l_sureAddr (v : Value) : light P rd (Instr.sureAddr v) := by
  unfold Instr.sureAddr; split <;> first | exact lp _ | exact lhalt _
theorem l_part (t : TypeId) (cs : Array Value) (off : Nat) : light P rd (part t cs off) := by
  unfold part
  refine lb (l_isAgg t) fun b => ?_
  split
  · exact lb (l_sizeOf t) fun _ => lp _
  · split <;> first | exact lp _ | exact lhalt _
theorem l_followBlind : ∀ (l : List FieldStep) (t : TypeId) (x : Option Value), light P rd (followBlind l t x)
  | [], t, x => lp _
  | s :: rest, t, x => by
    unfold followBlind
    refine lb (l_underlying _) fun d => ?_
    split <;> try exact lhalt _
    split <;> try exact lhalt _
    split <;> first | exact lp _ | exact lhalt _ | exact l_followBlind _ _ _ | exact lb (l_part _ _ _) fun _ => l_followBlind _ _ _
theorem l_nilAhead : ∀ (n : Nat) (t : TypeId) (v : Value) (s : String), light P rd (nilAhead n t v s)
  | 0, _, _, _ => lp _
  | n + 1, t, v, s => by
    unfold nilAhead
    refine lb (l_typeInfo _) fun d => ?_
    split <;> try exact lhalt _
    refine lb (l_followBlind _ _ _) fun d => ?_
    split <;> try exact lp _
    split <;> first | exact lp _ | exact lhalt _ | exact l_nilAhead _ _ _ _ | skip
    refine lb (l_underlying _) fun d => ?_
    split <;> exact lp _
theorem l_loadCellsFrom (a : Addr) : ∀ (n i : Nat) (acc : Array Value), light P true (loadCellsFrom a i n acc)
  | 0, _, _ => lp _
  | n + 1, i, acc => by
    unfold loadCellsFrom
    exact ⟨rfl, fun v => l_loadCellsFrom a n _ _⟩
theorem l_loadVar (t : TypeId) (a : Addr) : light P true (loadVar t a) := by
  unfold loadVar
  refine lb (l_isAgg t) fun b => ?_
  split
  · exact lb (l_sizeOf t) fun n => lb (l_loadCellsFrom a n 0 #[]) fun _ => lp _
  · exact ⟨rfl, fun _ => trivial⟩
theorem l_bytesToString (len cap : Nat) (a : Option Addr) : light P true (Conv.bytesToString (.slice a len cap)) := by
  unfold Conv.bytesToString
  cases a with
  | none => exact lp _
  | some a =>
    refine lb (l_loadCellsFrom a len 0 #[]) fun cs => ?_
    refine lb ?_ fun _ => lp _
    rw [← Array.forIn_toList]
    generalize cs.toList = l
    generalize ByteArray.empty = s
    induction l generalizing s with
    | nil => exact lp _
    | cons c l ih =>
      rw [List.forIn_cons]
      refine lb ?_ fun r => ?_
      · split <;> first | exact lp _ | exact lhalt _
      · cases r with
        | done b => exact lp _
        | yield b => exact ih b
theorem l_sliceBound (x : Value) (y : Nat) (c : BoundsCode) : light P rd (Instr.sliceBound x y c) := by
  unfold Instr.sliceBound
  refine lb (l_asIntOf x) fun r => ?_
  obtain ⟨k, i⟩ := r
  dsimp only
  split
  · exact lp _
  · exact l_boundsPanic _ _ _ _
theorem l_sliceBounds (b : Bool) (n c : Nat) (lo hi mx : Option Value) : light P rd (Instr.sliceBounds b n c lo hi mx) := by
  unfold Instr.sliceBounds
  dsimp only
  cases mx <;> cases hi <;> cases lo <;> dsimp only
  all_goals
    refine lb (by first | exact lp _ | exact l_sliceBound _ _ _ | exact lhalt _) fun m => lb (by first | exact lp _ | exact l_sliceBound _ _ _ | exact lhalt _) fun h => lb (by first | exact lp _ | exact l_sliceBound _ _ _ | exact lhalt _) fun l => lp _
theorem l_asAddr (v : Value) : light P rd (asAddr v) := by
  unfold asAddr; split <;> first | exact lp _ | exact l_runtimePanic _ | exact lhalt _
theorem l_slice (t : TypeId) (x : Value) (lo hi mx : Option Value) : light P rd (Instr.slice t x lo hi mx) := by
  unfold Instr.slice
  refine lb (l_underlying t) fun d => ?_
  split
  · split
    · exact lhalt _
    · exact lb (l_sliceBounds _ _ _ _ _ _) fun _ => lp _
  · exact lb (l_sliceBounds _ _ _ _ _ _) fun _ => lb (l_sizeOf _) fun _ => lp _
  · refine lb (l_asAddr _) fun a => lb (l_underlying _) fun d => ?_
    split
    · exact lb (l_sliceBounds _ _ _ _ _ _) fun _ => lb (l_sizeOf _) fun _ => lp _
    · exact lhalt _
  · exact lhalt _
theorem l_sliceAt (t : TypeId) (x : Value) (lo hi mx : Option Value) : light P rd (Instr.sliceAt t x lo hi mx) := by
  unfold Instr.sliceAt
  refine lb (l_underlying t) fun d => ?_
  split
  · exact lb (l_sureAddr x) fun a => lb (l_sliceBounds _ _ _ _ _ _) fun _ => lb (l_sizeOf _) fun _ => lp _
  · exact l_slice _ _ _ _ _
theorem l_indexAt (t : TypeId) (x i : Value) : light P rd (Instr.indexAt t x i) := by
  unfold Instr.indexAt
  refine lb (l_asIntOf i) fun r => ?_
  obtain ⟨k, i⟩ := r
  refine lb (l_underlying t) fun d => ?_
  dsimp only
  have hk : ∀ (base : Option Addr) (len : Nat) (elem : TypeId), light P rd (underlying t >>= fun lift =>
        match base with
          | some a =>
            if 0 ≤ i ∧ i < (len : Int) then Go.sizeOf elem >>= fun s => pure (Value.pointer (some (a.add (i.toNat * s))))
            else if (decide (len ≤ 1) && match lift with | TypeDesc.array len elem => true | x => false) = true then
                unsupported (Unsupported.noEntry "op/indexAddr.an index out of range at an array of length 0 or 1 (ledger 616)")
              else boundsPanic k i len BoundsCode.index
          | none => boundsPanic k i 0 BoundsCode.index) := by
    intro base len elem
    refine lb (l_underlying t) fun d => ?_
    split
    · split
      · exact lb (l_sizeOf _) fun _ => lp _
      · split <;> split <;> first | exact lhalt _ | exact l_boundsPanic _ _ _ _
    · exact l_boundsPanic _ _ _ _
  split
  · exact lb (l_sureAddr _) fun _ => lb (lp _) fun q => hk q.1 q.2.1 q.2.2
  · exact lb (lp _) fun q => hk q.1 q.2.1 q.2.2
  · exact lb (lhalt _) fun q => hk q.1 q.2.1 q.2.2
theorem l_index (t : TypeId) (x i : Value) : light P rd (Instr.index t x i) := by
  unfold Instr.index
  refine lb (l_asIntOf i) fun r => ?_
  obtain ⟨k, i⟩ := r
  refine lb (l_underlying t) fun d => ?_
  split
  · split
    · exact lb (l_sizeOf _) fun _ => l_part _ _ _
    · exact l_boundsPanic _ _ _ _
  · split
    · exact lp _
    · exact l_boundsPanic _ _ _ _
  · exact lhalt _
theorem l_field (t : TypeId) (x : Value) (f : Nat) : light P rd (Instr.field t x f) := by
  unfold Instr.field
  refine lb (l_underlying t) fun d => ?_
  split <;> try exact lhalt _
  split <;> try exact lhalt _
  exact lb (l_asAgg _) fun _ => l_part _ _ _
theorem l_extract (x : Value) (i : Nat) : light P rd (Instr.extract x i) := by
  unfold Instr.extract
  split
  · split <;> first | exact lp _ | exact lhalt _
  · exact lhalt _
theorem l_makeInterface (t : TypeId) (x : Value) : light P rd (Instr.makeInterface t x) := by
  unfold Instr.makeInterface
  refine lb (l_underlying t) fun d => ?_
  split <;> first | exact lp _ | exact lhalt _
end

inductive Cls where
  | pure | load | alloc | heavy
  deriving DecidableEq

/-- What kind of thing an operation does, told by its form and its types. -/
def clsOf (P : Program) (o : Oper) : Cls :=
  match o.op with
  | .move _ | .assign _ | .pick .. | .nilCheck _ | .binOp .. | .unOp .. | .field .. | .indexAddr .. | .index .. | .extract .. | .makeInterface .. | .makeFunc .. | .slice .. => .pure
  | .fieldAddr s _ f =>
    match P.underlying s with
    | some (.struct fs) => match fs[f]? with
      | some g => if P.cellsOf g.type = 0 then .heavy else .pure
      | none => .heavy
    | _ => .heavy
  | .convert src dst _ =>
    match P.underlying src, P.underlying dst with
    | some (.int _), some (.int _) => .pure
    | some (.slice e), some .string => match P.underlying e with
      | some (.int .u8) => .load
      | _ => .heavy
    | _, _ => .heavy
  | .load .. => .load
  | .lookup t _ _ _ =>
    match P.underlying t with
    | some (.map k _) => match P.underlying k with
      | some (.int _) => .load
      | _ => .heavy
    | _ => .heavy
  | .makeMap _ none => .alloc
  | .box .. | .alloc .. | .buildSlice .. => .alloc
  | .call { callee := .builtin .len, argTypes := ts, .. } =>
    match (ts[0]?).bind P.underlying with
    | some .string | some (.slice _) | some (.array ..) => .pure
    | _ => .heavy
  | _ => .heavy

/-- What must be known of the operands' values. -/
def sideOf (o : Oper) (a : Act) : Bool :=
  match o.op with
  | .binOp _ _ x y _ =>
    match a.eval x, a.eval y with
    | .int .., .int .. | .string _, .string _ | .pointer none, .pointer _ | .pointer _, .pointer none => true
    | _, _ => false
  | .unOp _ _ x => match a.eval x with | .int .. | .bool _ => true | _ => false
  | .convert _ _ x => match a.eval x with | .int .. | .slice .. => true | _ => false
  | .lookup _ _ x _ => match a.eval x with | .int .. => true | _ => false
  | _ => true

section
variable {P : Program}
def Valued (P : Program) (rd : Bool) (s : Sem Next) : Prop := ∃ u : Sem Value, s = u >>= (fun v => pure (.value v)) ∧ light P rd u

theorem l_intOps {rd : Bool} (op : BinOp) (k : IntKind) (x y : Int) : light P rd (Op.intArith op k x y) := by
  unfold Op.intArith; split <;> trivial
theorem l_shift {rd : Bool} (op : BinOp) (k k' : IntKind) (x y : Int) : light P rd (Op.shift op k x k' y) := by
  unfold Op.shift; split
  · exact l_runtimePanic _
  · dsimp only; split <;> trivial
theorem l_binInts {rd : Bool} (op : BinOp) (t : TypeId) (k k' : IntKind) (x y : Int) : light P rd (binOp op t (.int k x) (.int k' y)) := by
  cases op
  case shl => exact l_shift .shl k k' x y
  case shr => exact l_shift .shr k k' x y
  all_goals
    unfold binOp
    dsimp only
    split
    · trivial
    · first
      | trivial
      | (unfold Op.intDiv; split
         · exact l_runtimePanic _
         · trivial)
theorem l_stringOp {rd : Bool} (op : BinOp) (x y : ByteArray) : light P rd (Op.stringOp op x y) := by
  unfold Op.stringOp
  cases op <;> dsimp only <;> (first | trivial | (split <;> trivial))
theorem l_eqNone {rd : Bool} (t : TypeId) (x y : Option Addr) (h : x = none ∨ y = none) : light P rd (Op.equal t (.pointer x) (.pointer y)) := by
  unfold Op.equal Op.maxDepth Op.equalIn
  refine lb (l_underlying _) fun d => ?_
  split <;> first | trivial | (exfalso; simp_all; done) | skip
  all_goals (rcases h with h | h <;> simp_all)
  · subst_vars; unfold samePointer; split <;> first | trivial | simp_all
  · subst_vars; unfold samePointer; split <;> first | trivial | simp_all

theorem v_mk {rd : Bool} {u : Sem Value} (h : light P rd u) : Valued P rd (u >>= fun v => pure (.value v)) := ⟨u, rfl, h⟩
theorem v_val {rd : Bool} (v : Value) : Valued P rd (pure (.value v)) := ⟨pure v, rfl, trivial⟩

theorem l_eqGuard {rd : Bool} (op : BinOp) (t : TypeId) (x y : Operand) (u v : Value) (h : ∀ c, u ≠ .agg c) (h' : u ≠ .nilIface) : light P rd (eqGuard op t x y u v) := by
  cases u <;> first | exact absurd rfl h' | exact absurd rfl (h _) | (cases op <;> exact lp _)

theorem l_binStrings {rd : Bool} (op : BinOp) (t : TypeId) (x y : ByteArray) : light P rd (binOp op t (.string x) (.string y)) := by
  have e : binOp op t (.string x) (.string y) = Op.stringOp op x y := by unfold binOp; cases op <;> rfl
  rw [e]; exact l_stringOp _ _ _

theorem l_binPtr {rd : Bool} (op : BinOp) (t : TypeId) (x y : Option Addr) (h : x = none ∨ y = none) : light P rd (binOp op t (.pointer x) (.pointer y)) := by
  rcases h with rfl | rfl
  · cases op <;> first | exact lhalt _ | (cases y <;> exact lhalt _) | exact lb (l_eqNone _ _ _ (.inl rfl)) fun _ => lp _
  · cases op <;> first | exact lhalt _ | (cases x <;> exact lhalt _) | exact lb (l_eqNone _ _ _ (.inr rfl)) fun _ => lp _

theorem l_under {rd : Bool} {β : Type} {t : TypeId} {d : TypeDesc} (h : P.underlying t = some d) {f : TypeDesc → Sem β} (hf : light P rd (f d)) : light P rd (underlying t >>= f) := by
  show light P rd (Sem.bind (match P.underlying t with | some d => pure d | none => stuck "no such type") f)
  rw [h]; exact hf

theorem l_cells {rd : Bool} {β : Type} {t : TypeId} (h : P.cellsOf t ≠ 0) {f : Nat → Sem β} (hf : light P rd (f (P.cellsOf t))) : light P rd (sizeOf t >>= f) := by
  unfold Program.cellsOf at *
  cases hi : P.info? t with
  | none => rw [hi] at h; simp at h
  | some i =>
    rw [hi] at hf
    have e : light P rd ((typeInfo t >>= fun i => pure i.size) >>= f) = light P rd (((match P.info? t with | some i => pure i | none => stuck "no such type") >>= fun i => pure i.size) >>= f) := rfl
    show light P rd ((typeInfo t >>= fun i => pure i.size) >>= f)
    rw [e, hi]
    exact hf

theorem valued_pure {o : Oper} {a : Act} (h : clsOf P o = .pure) (hs : sideOf o a = true) : Valued P false (execOp a.eval o) := by
  obtain ⟨dst, op, ty, pos, after, guard⟩ := o
  cases op <;> simp only [clsOf] at h <;> try (cases h; done)
  case lookup t m x c =>
    exfalso
    revert h
    split
    · split <;> (intro h; cases h)
    · intro h; cases h
  case makeMap t r => exfalso; cases r <;> cases h
  case move x => exact v_val _
  case assign x => exact v_val _
  case pick c x y =>
    refine ⟨asBool (a.eval c) >>= fun b => pure (if b then a.eval x else a.eval y), ?_, lb (l_asBool _) fun _ => lp _⟩
    simp only [execOp, bind_assoc, pure_bind]
  case nilCheck x =>
    unfold execOp
    dsimp only
    generalize a.eval x = v
    split
    · exact ⟨runtimePanic .nilDeref, (by rfl), l_runtimePanic _⟩
    · exact ⟨runtimePanic .nilDeref, (by rfl), l_runtimePanic _⟩
    · exact ⟨runtimePanic .nilDeref, (by rfl), l_runtimePanic _⟩
    · rename_i name first captured
      split
      · exact ⟨runtimePanic .nilDeref, (by rfl), l_runtimePanic _⟩
      · rename_i t w _
        refine ⟨program >>= fun p => nilAhead (p.types.size + Made.depth) t w name >>= fun r => if (r != some false) = true then unsupported (.noEntry "op/nilCheck.the method's receiver behind this interface value is a nil pointer, or cannot be seen to be none, and the arguments act or may panic (ledger 612)") else pure (.func (.method name) first captured), ?_,
          lb l_program fun p => lb (l_nilAhead _ _ _ _) fun r => ?_⟩
        · simp only [bind_assoc]
          refine congrArg _ (funext fun p => congrArg _ (funext fun r => ?_))
          split <;> rfl
        · split
          · exact lhalt _
          · exact lp _
      · exact v_val _
    · exact v_val _
  case binOp op t x y t' =>
    refine v_mk ?_
    simp only [sideOf] at hs
    generalize a.eval x = u at *
    generalize a.eval y = v at *
    split at hs <;> try (cases hs; done)
    · exact lb (l_eqGuard _ _ _ _ _ _ (by simp) (by simp)) fun _ => l_binInts _ _ _ _ _ _
    · refine lb (l_eqGuard _ _ _ _ _ _ (by simp) (by simp)) fun _ => ?_
      exact l_binStrings _ _ _ _
    · refine lb (l_eqGuard _ _ _ _ _ _ (by simp) (by simp)) fun _ => ?_
      exact l_binPtr _ _ _ _ (.inl rfl)
    · refine lb (l_eqGuard _ _ _ _ _ _ (by simp) (by simp)) fun _ => ?_
      exact l_binPtr _ _ _ _ (.inr rfl)
  case unOp op t x =>
    refine v_mk ?_
    simp only [sideOf] at hs
    generalize a.eval x = u at *
    split at hs <;> try (cases hs; done)
    · cases op <;> first | exact lhalt _ | exact l_intOps _ _ _ _ | (unfold Op.unary Op.intBits; dsimp only; exact lp _)
    · cases op <;> first | exact lhalt _ | exact lp _
  case convert src dst x =>
    refine v_mk ?_
    simp only [sideOf] at hs
    generalize a.eval x = u at *
    cases hsrc : P.underlying src with
    | none => rw [hsrc] at h; simp at h
    | some ds =>
      cases hdst : P.underlying dst with
      | none => rw [hsrc, hdst] at h; cases ds <;> simp at h
      | some dd =>
        rw [hsrc, hdst] at h
        cases ds <;> try (simp at h; done)
        case slice =>
          exfalso
          cases dd <;> try (simp at h; done)
          revert h
          dsimp only
          split <;> (intro h; cases h)
        cases dd <;> try (simp at h; done)
        unfold convert
        refine l_under hsrc (l_under hdst ?_)
        cases u <;> first | (simp at hs; done) | exact lp _ | exact lhalt _
  case makeInterface t x => exact v_mk (l_makeInterface _ _)
  case makeFunc f x y => exact v_mk (lp _)
  case slice t x lo hi mx => exact v_mk (l_sliceAt _ _ _ _ _)
  case fieldAddr t x f =>
    refine v_mk ?_
    cases hu : P.underlying t with
    | none => rw [hu] at h; simp at h
    | some d =>
      rw [hu] at h
      cases d <;> try (simp at h; done)
      rename_i fs
      simp only at h
      cases hf : fs[f]? with
      | none => rw [hf] at h; simp at h
      | some g =>
        rw [hf] at h
        have hz : P.cellsOf g.type ≠ 0 := by
          intro h0; simp [h0] at h
        unfold Instr.fieldAt
        refine l_under hu ?_
        dsimp only
        rw [hf]
        refine lb (l_sureAddr _) fun a => lb ?_ fun _ => lp _
        unfold fieldPlace
        refine l_cells hz ?_
        rw [if_neg hz]
        exact lp _
  case field t x f => exact v_mk (l_field _ _ _)
  case indexAddr t x i => exact v_mk (l_indexAt _ _ _)
  case index t x i => exact v_mk (l_index _ _ _)
  case extract x i => exact v_mk (l_extract _ _)
  case call c =>
    obtain ⟨callee, args, ts⟩ := c
    cases callee <;> try (simp at h; done)
    rename_i b
    cases b <;> try (simp at h; done)
    dsimp only at h
    have e : execOp a.eval { dst := dst, op := .call { callee := .builtin .len, args := args, argTypes := ts }, type := ty, pos := pos, after := after, guard := guard } = (Builtin.len_ ts ty (args.map a.eval) >>= fun v => pure (.value v)) := rfl
    rw [e]
    refine v_mk ?_
    unfold Builtin.len_
    cases ht : ts[0]? with
    | none => exact lhalt _
    | some t =>
      rw [ht] at h
      cases hx : (args.map a.eval)[0]? with
      | none => exact lhalt _
      | some x =>
        cases hu : P.underlying t with
        | none => simp [hu] at h
        | some d =>
          simp only [Option.bind_some, hu] at h
          refine l_under hu ?_
          cases d <;> first | (simp at h; done) | (cases x <;> first | exact lp _ | exact lhalt _)

theorem l_equalInt {rd : Bool} {t : TypeId} {q : IntKind} (ht : P.underlying t = some (.int q)) (k : IntKind) (x : Int) (y : Value) : light P rd (Op.equal t (.int k x) y) := by
  unfold Op.equal Op.maxDepth Op.equalIn
  refine l_under ht ?_
  cases y with
  | int k' y =>
    show light P rd (if k = k' then pure (x == y) else stuck "==: kinds differ")
    by_cases hk : k = k'
    · rw [if_pos hk]; exact lp _
    · rw [if_neg hk]; exact lhalt _
  | pointer b =>
    cases b with
    | none => exact lhalt _
    | some a =>
      match x with
      | .ofNat 0 => exact lp _
      | .ofNat (n + 1) => exact lhalt _
      | .negSucc n => exact lhalt _
  | _ => exact lhalt _
theorem l_findAsking {rd : Bool} {t : TypeId} {q : IntKind} (ht : P.underlying t = some (.int q)) (k : IntKind) (x : Int) : ∀ (es : List MapEntry) (i : Nat), light P rd (Instr.findAsking t (.int k x) es i)
  | [], _ => trivial
  | e :: es, i => by
    unfold Instr.findAsking
    refine lb (l_equalInt ht _ _ _) fun b => ?_
    split
    · exact lp _
    · exact l_findAsking ht k x es (i + 1)
theorem l_checkInt {rd : Bool} {t : TypeId} {q : IntKind} (ht : P.underlying t = some (.int q)) (e : Bool) (n : Nat) (k : IntKind) (x : Int) : light P rd (Instr.checkKey e n t (.int k x)) := by
  cases n with
  | zero => exact lhalt _
  | succ n =>
    unfold Instr.checkKey
    exact l_under ht trivial
theorem l_lookup {t kt et : TypeId} {q : IntKind} (ht : P.underlying t = some (.map kt et)) (hk : P.underlying kt = some (.int q)) (m : Value) (k : IntKind) (x : Int) (c : Bool) : light P true (Instr.lookup t m (.int k x) c) := by
  unfold Instr.lookup
  refine l_under ht ?_
  dsimp only
  have hrest : ∀ es : Array MapEntry, light P true (Instr.checkKey es.isEmpty 10000 kt (.int k x) >>= fun _ => Instr.findKey kt (.int k x) es.toList >>= fun r => (match r with
      | some (_, v) => (pure (v, true) : Sem (Value × Bool)) >>= fun p => pure (if c = true then Value.tuple #[p.1, .bool p.2] else p.1)
      | none => zeroValue et >>= fun z => (pure (z, false) : Sem (Value × Bool)) >>= fun p => pure (if c = true then Value.tuple #[p.1, .bool p.2] else p.1))) := by
    intro es
    refine lb (l_checkInt hk _ _ _ _) fun _ => lb ?_ fun r => ?_
    · unfold Instr.findKey
      refine l_under hk ?_
      split
      · exact lp _
      · exact l_findAsking hk _ _ _ _
    · split
      · exact lp _
      · exact lb (l_zeroValue _) fun _ => lp _
  cases m with
  | map r =>
    cases r with
    | none => exact hrest #[]
    | some r =>
      refine lb (s := getObj r) ⟨rfl, fun o => trivial⟩ fun o => ?_
      cases o <;> first | exact hrest _ | exact lhalt _
  | _ => exact lhalt _
theorem valued_load {o : Oper} {a : Act} (h : clsOf P o = .load) (hs : sideOf o a = true) : Valued P true (execOp a.eval o) := by
  obtain ⟨dst, op, ty, pos, after, guard⟩ := o
  cases op <;> simp only [clsOf] at h <;> try (cases h; done)
  case makeMap t r => exfalso; cases r <;> cases h
  case load t x => exact v_mk (lb (l_sureAddr _) fun _ => l_loadVar _ _)
  case lookup t m x c =>
    cases ht : P.underlying t with
    | none => rw [ht] at h; cases h
    | some d =>
      rw [ht] at h
      cases d <;> try (cases h; done)
      rename_i kt et
      dsimp only at h
      cases hk : P.underlying kt with
      | none => rw [hk] at h; cases h
      | some dk =>
        rw [hk] at h
        cases dk <;> try (cases h; done)
        rename_i q
        simp only [sideOf] at hs
        have e : execOp a.eval { dst := dst, op := .lookup t m x c, type := ty, pos := pos, after := after, guard := guard } = (Instr.lookup t (a.eval m) (a.eval x) c >>= fun v => pure (.value v)) := rfl
        rw [e]
        refine v_mk ?_
        generalize a.eval x = u at *
        cases u <;> first | (cases hs; done) | exact l_lookup ht hk _ _ _ _
  case convert src dst x =>
    refine v_mk ?_
    simp only [sideOf] at hs
    generalize a.eval x = u at *
    cases hsrc : P.underlying src with
    | none => rw [hsrc] at h; simp at h
    | some ds =>
      cases hdst : P.underlying dst with
      | none => rw [hsrc, hdst] at h; cases ds <;> simp at h
      | some dd =>
        rw [hsrc, hdst] at h
        cases ds <;> try (simp at h; done)
        case int => cases dd <;> simp at h
        rename_i el
        cases dd <;> try (simp at h; done)
        dsimp only at h
        unfold convert
        refine l_under hsrc (l_under hdst ?_)
        cases u <;> try (simp at hs; done)
        · exact lp _
        · cases he : P.underlying el with
          | none => rw [he] at h; simp at h
          | some de =>
            rw [he] at h
            refine l_under he ?_
            cases de <;> try (cases h; done)
            rename_i k
            cases k <;> try (cases h; done)
            exact l_bytesToString _ _ _
  case fieldAddr t x f =>
    exfalso
    revert h
    split
    · split
      · split <;> simp
      · simp
    · simp
  case call c =>
    exfalso
    obtain ⟨callee, args, ts⟩ := c
    cases callee <;> try (simp at h; done)
    rename_i b
    cases b <;> try (simp at h; done)
    revert h
    dsimp only
    split <;> (intro h; cases h)
end

/-! ### Computations that lay new blocks and change no old one -/
def grows {α : Type} (P : Program) : Sem α → Prop
  | .pure _ => True
  | .halt _ => True
  | .program k => grows P (k P)
  | .load _ _ k => ∀ v, grows P (k v)
  | .getObj _ k => ∀ v, grows P (k v)
  | .new _ k => ∀ r, grows P (k r)
  | .choose _ k => ∀ n, grows P (k n)
  | .mark _ k => grows P k
  | _ => False

theorem Ext.trans {a b c : World} (h : Ext a b) (hs : a.heap.size ≤ b.heap.size) (k : Ext b c) : Ext a c := fun i hi => (k i (by omega)).trans (h i hi)

section
variable {P : Program}
theorem gb {α β : Type} {s : Sem α} {f : α → Sem β} (h : grows P s) (hf : ∀ a, grows P (f a)) : grows P (s >>= f) := by
  show grows P (s.bind f)
  induction s with
  | pure a => exact hf a
  | halt _ => trivial
  | program k ih => exact ih P h
  | load m a k ih => exact fun v => ih v (h v)
  | getObj m k ih => exact fun v => ih v (h v)
  | new o k ih => exact fun r => ih r (h r)
  | choose q k ih => exact fun n => ih n (h n)
  | mark m k ih => exact ih h
  | _ => exact h.elim
theorem grows_of_dies {α : Type} {s : Sem α} (h : dies P s) : grows P s := by
  induction s with
  | halt _ => trivial
  | program k ih => exact ih P h
  | new o k ih => exact fun r => ih r (h r)
  | choose q k ih => exact fun n => ih n (h n)
  | _ => exact h.elim
theorem grows_of_light {α : Type} {rd : Bool} {s : Sem α} (h : light P rd s) : grows P s := by
  induction s with
  | pure _ => trivial
  | halt _ => trivial
  | program k ih => exact ih P h
  | load m a k ih => exact fun v => ih v (h.2 v)
  | getObj m k ih => exact fun v => ih v (h.2 v)
  | new o k ih => exact fun r => grows_of_dies (h r)
  | choose q k ih => exact fun n => grows_of_dies (h n)
  | _ => exact h.elim
theorem run_grows {α : Type} {s : Sem α} (h : grows P s) : ∀ {w : World} {v : α} {w1 : World}, s.run P w = .ok v w1 → Ext w w1 ∧ w.heap.size ≤ w1.heap.size := by
  induction s with
  | pure a => intro w v w1 hr; simp [Sem.run] at hr; obtain ⟨_, rfl⟩ := hr; exact ⟨Ext.refl _, Nat.le_refl _⟩
  | halt _ => intro w v w1 hr; simp [Sem.run] at hr
  | program k ih => intro w v w1 hr; exact ih P h hr
  | load m a k ih =>
    intro w v w1 hr
    simp only [Sem.run] at hr
    split at hr
    · exact ih _ (h _) hr
    · split at hr
      · exact ih _ (h _) hr
      · cases hr
  | getObj m k ih =>
    intro w v w1 hr
    simp only [Sem.run] at hr
    split at hr
    · cases hr
    · exact ih _ (h _) hr
    · cases hr
  | new o k ih =>
    intro w v w1 hr
    simp only [Sem.run] at hr
    obtain ⟨h1, h2⟩ := ih _ (h _) hr
    simp only [Array.size_push] at h2
    refine ⟨Ext.trans (b := { w with heap := w.heap.push o }) (fun i hi => ?_) (by simp) h1, by omega⟩
    show (w.heap.push o)[i]? = _
    rw [Array.getElem?_push, if_neg (by omega)]
  | choose q k ih =>
    intro w v w1 hr
    simp only [Sem.run] at hr
    split at hr
    · exact ih _ (h _) hr
    · have := ih _ (h _) hr
      exact this
  | mark m k ih => intro w v w1 hr; exact ih h hr
  | _ => exact h.elim

theorem gl {α β : Type} {rd : Bool} {s : Sem α} {f : α → Sem β} (h : light P rd s) (hf : ∀ a, grows P (f a)) : grows P (s >>= f) := gb (grows_of_light h) hf
theorem g_newVar (t : TypeId) (v : Value) : grows P (newVar t v) := fun r => trivial

theorem alloc_grows {o : Oper} {a : Act} (h : clsOf P o = .alloc) : ∃ u : Sem Value, execOp a.eval o = (u >>= fun v => pure (.value v)) ∧ grows P u := by
  obtain ⟨dst, op, ty, pos, after, guard⟩ := o
  cases op <;> simp only [clsOf] at h <;> try (cases h; done)
  case lookup t m x c =>
    exfalso
    revert h
    split
    · split <;> (intro h; cases h)
    · intro h; cases h
  case alloc e =>
    refine ⟨_, rfl, ?_⟩
    unfold Instr.alloc
    refine gl (rd := false) (l_zeroValue _) fun z => ?_
    exact gb (g_newVar _ _) fun _ => trivial
  case box e x => exact ⟨_, rfl, gb (g_newVar _ _) fun _ => trivial⟩
  case makeMap t r =>
    cases r with
    | some _ => cases h
    | none =>
      refine ⟨Instr.makeMap t none, rfl, ?_⟩
      unfold Instr.makeMap
      exact fun r => trivial
  case buildSlice t n ps =>
    refine ⟨_, rfl, ?_⟩
    unfold Instr.buildSlice
    refine gl (rd := false) (l_underlying _) fun d => ?_
    split <;> try trivial
    rename_i elem
    refine gl (rd := false) (l_sizeOf _) fun s => ?_
    dsimp only
    have hk : ∀ zero : Array Value, grows P (match Instr.fill (fun i => some (i * s, s)) ((Array.range (n * s)).map (fun i => zero[i % zero.size]!)) (Array.map (fun x => (x.1, a.eval x.2)) ps).toList with
        | some cells => newRow elem cells >>= fun r => pure (Value.slice (some r) n n)
        | _ => stuck "buildSlice: a part of the wrong size") := by
      intro zero
      split
      · exact fun r => trivial
      · trivial
    split
    · trivial
    · split
      · exact gb (s := (pure #[] : Sem (Array Value))) trivial fun z => hk z
      · exact gl (rd := false) (l_zeroValue _) fun z => gb (s := (pure z.cells : Sem (Array Value))) trivial fun z => hk z
  case fieldAddr t x f =>
    exfalso
    revert h
    split
    · split
      · split <;> simp
      · simp
    · simp
  case convert src dst x =>
    exfalso
    revert h
    split
    · simp
    · split <;> (intro h; cases h)
    · simp
  case call c =>
    exfalso
    obtain ⟨callee, args, ts⟩ := c
    cases callee <;> try (simp at h; done)
    rename_i b
    cases b <;> try (simp at h; done)
    revert h
    dsimp only
    split <;> (intro h; cases h)
end

/-! ### Changing places -/
def OnlyNormal (R : Act → World → Prop) : Exit → Act → World → Prop
  | .normal, a, w => R a w
  | _, _, _ => False

theorem not_letsOut (R : Act → World → Prop) : ¬ LetsOut (OnlyNormal R) := fun ⟨_, _, h⟩ => h

section
variable {P : Program} {ops : Array Oper} {R : Act → World → Prop}

theorem valued_run {rd : Bool} {s : Sem Next} (hv : Valued P rd s) {w : World} {n : Next} {w1 : World} (hr : s.run P w = .ok n w1) :
    ∃ v, n = .value v ∧ w1 = w ∧ ∀ w', (rd = true → Ext w w') → s.run P w' = .ok (.value v) w' := by
  obtain ⟨u, rfl, hl⟩ := hv
  have hl' : light P rd (u >>= fun v => (pure (.value v) : Sem Next)) := lb hl fun _ => lp _
  obtain ⟨rfl, hst⟩ := run_light hl' hr
  simp only [Sem.run_bind] at hr
  cases hu : u.run P w1 with
  | halt h w2 => rw [hu] at hr; simp [Result.andThen] at hr
  | ok v w2 =>
    rw [hu] at hr
    simp [Result.andThen] at hr
    obtain ⟨rfl, _⟩ := hr
    exact ⟨v, rfl, rfl, hst⟩

/-- What an operation that runs to its end leads to. -/
theorem wpOp_reach {i : Nat} {K : Act → World → Prop} {a : Act} {w : World} (h : wpOp P ops (OnlyNormal R) i K a w) :
    ∃ a' w', K a' w' ∧ ∃ v, (a'.tmps = (a.put ((ops[i]?).bind (·.dst)) v).tmps ∨ a'.tmps = a.tmps) := by
  unfold wpOp at h
  cases ho : ops[i]? with
  | none => rw [ho] at h; exact ⟨a, w, h, undef, .inr rfl⟩
  | some o =>
    rw [ho] at h
    simp only at h
    split at h
    · rcases h with h | ⟨_, h⟩
      · unfold Oper.wp at h
        generalize hr : (execOp a.eval o).run P w = r at h
        cases r with
        | ok n w' =>
          cases n <;> simp only [Oper.upon] at h
          case value v => exact ⟨_, _, h, v, .inl rfl⟩
          case skip => exact ⟨_, _, h, undef, .inl rfl⟩
          case defer d => exact ⟨_, _, h, undef, .inl (by simp only [Option.bind_some, Act.put]; cases o.dst <;> rfl)⟩
          case enter f args =>
            obtain ⟨e, w'', fr, hR, _⟩ := h []
            cases e with
            | returned v => exact ⟨_, _, hR, v, .inl rfl⟩
            | panicked chain => exact hR.elim
            | outgrown => exact (not_letsOut R hR).elim
          case row r args =>
            obtain ⟨v, w'', hR, _⟩ := h default []
            exact ⟨_, _, hR, v, .inl rfl⟩
        | halt x w' => cases x <;> simp only [Oper.upon] at h; exact h.elim
      · exact (not_letsOut R h).elim
    · exact ⟨_, _, h, undef, .inl rfl⟩

/-- A fact about an act that no later operation disturbs, known at the end, is known at once. -/
theorem wpOps_const {φ : Array Value → Prop} (hφ : ∀ a' w', R a' w' → φ a'.tmps) : ∀ (js : List Nat) (a : Act) (w : World),
    (∀ j ∈ js, ∀ (a : Act) (v : Value), φ ((a.put ((ops[j]?).bind (·.dst)) v).tmps) → φ a.tmps) → wpOps P ops (OnlyNormal R) js a w → φ a.tmps
  | [], a, w, _, h => hφ a w h
  | j :: js, a, w, hk, h => by
    rw [wpOps_cons] at h
    obtain ⟨a', w', h', v, e⟩ := wpOp_reach h
    have h2 := wpOps_const hφ js a' w' (fun i hi => hk i (List.mem_cons_of_mem _ hi)) h'
    rcases e with e | e
    · rw [e] at h2; exact hk j (List.mem_cons_self ..) a v h2
    · rw [e] at h2; exact h2

def notSelect (o : Oper) : Bool := match o.op with | .select .. => false | _ => true
theorem notSelect_spec {o : Oper} (h : notSelect o = true) : ∀ cs b, o.op ≠ .select cs b := by
  intro cs b e; simp [notSelect, e] at h

/-- An operation does as it did where another's slot has been filled that it neither reads nor writes. -/
theorem wpOp_put {i : Nat} {o : Oper} (ho : ops[i]? = some o) (hs : notSelect o = true) {d : Option Tmp} (v : Value)
    (h1 : ∀ t, d = some t → t ∉ o.looksAt ops) (h2 : ∀ t, d = some t → o.dst ≠ some t)
    {K K' : Act → World → Prop} {a : Act} {w : World} (hK : ∀ a' w' u, a'.tmps = (a.put o.dst u).tmps → K a' w' → K' (a'.put d v) w') (h : wpOp P ops (OnlyNormal R) i K a w) : wpOp P ops (OnlyNormal R) i K' (a.put d v) w := by
  unfold wpOp at *
  simp only [ho] at h ⊢
  rw [wanted_put o a d v h1]
  have pc : ∀ (a : Act) u, (a.put d v).put o.dst u = (a.put o.dst u).put d v := fun a u => Act.put_comm a v u (fun t ht => h2 t ht)
  split
  · rename_i hw
    simp only [hw, if_true] at h
    rcases h with h | ⟨_, h⟩
    · left
      unfold Oper.wp at *
      rw [execOp_put o (notSelect_spec hs) a d v h1]
      generalize (execOp a.eval o).run P w = r at *
      cases r with
      | ok n w' =>
        cases n <;> simp only [Oper.upon] at h ⊢
        case value u => rw [pc]; exact hK _ _ u rfl h
        case skip => rw [pc]; exact hK _ _ undef rfl h
        case defer dd =>
          have e : ({ tmps := (a.put d v).tmps, defers := dd :: (a.put d v).defers } : Act) = ({ tmps := a.tmps, defers := dd :: a.defers } : Act).put d v := Act.put_defers a d v dd
          rw [e, pc]; exact hK _ _ undef (by simp only [Act.put]; cases o.dst <;> rfl) h
        case enter f args =>
          refine Calls.mono h fun e w'' he => ?_
          cases e with
          | returned u => dsimp only at he ⊢; rw [pc]; exact hK _ _ u rfl he
          | panicked chain => exact he.elim
          | outgrown => exact he
        case row f args =>
          refine Rows.mono h fun u w'' he => ?_
          rw [pc]; exact hK _ _ u rfl he
      | halt x w' => cases x <;> simp only [Oper.upon] at h; exact h.elim
    · exact (not_letsOut R h).elim
  · rename_i hw
    simp only [hw] at h
    rw [pc]; exact hK _ _ undef rfl h

theorem wpOp_unput {i : Nat} {o : Oper} (ho : ops[i]? = some o) (hs : notSelect o = true) {d : Option Tmp} (v : Value)
    (h1 : ∀ t, d = some t → t ∉ o.looksAt ops) (h2 : ∀ t, d = some t → o.dst ≠ some t)
    {K K' : Act → World → Prop} {a : Act} {w : World} (hK : ∀ a' w' u, a'.tmps = (a.put o.dst u).tmps → K (a'.put d v) w' → K' a' w') (h : wpOp P ops (OnlyNormal R) i K (a.put d v) w) : wpOp P ops (OnlyNormal R) i K' a w := by
  unfold wpOp at *
  simp only [ho] at h ⊢
  rw [wanted_put o a d v h1] at h
  have pc : ∀ (a : Act) u, (a.put d v).put o.dst u = (a.put o.dst u).put d v := fun a u => Act.put_comm a v u (fun t ht => h2 t ht)
  split
  · rename_i hw
    simp only [hw, if_true] at h
    rcases h with h | ⟨_, h⟩
    · left
      unfold Oper.wp at *
      rw [execOp_put o (notSelect_spec hs) a d v h1] at h
      generalize (execOp a.eval o).run P w = r at *
      cases r with
      | ok n w' =>
        cases n <;> simp only [Oper.upon] at h ⊢
        case value u => rw [pc] at h; exact hK _ _ u rfl h
        case skip => rw [pc] at h; exact hK _ _ undef rfl h
        case defer dd =>
          have e : ({ tmps := (a.put d v).tmps, defers := dd :: (a.put d v).defers } : Act) = ({ tmps := a.tmps, defers := dd :: a.defers } : Act).put d v := Act.put_defers a d v dd
          rw [e, pc] at h; exact hK _ _ undef (by simp only [Act.put]; cases o.dst <;> rfl) h
        case enter f args =>
          refine Calls.mono h fun e w'' he => ?_
          cases e with
          | returned u => dsimp only at he ⊢; rw [pc] at he; exact hK _ _ u rfl he
          | panicked chain => exact he.elim
          | outgrown => exact he
        case row f args =>
          refine Rows.mono h fun u w'' he => ?_
          rw [pc] at he; exact hK _ _ u rfl he
      | halt x w' => cases x <;> simp only [Oper.upon] at h; exact h.elim
    · exact (not_letsOut R h).elim
  · rename_i hw
    simp only [hw] at h
    rw [pc] at h; exact hK _ _ undef rfl h

/-- What a light operation yields: in this world, and in others. -/
def Yields (P : Program) (ops : Array Oper) (o : Oper) (a : Act) (W : World → Prop) (v : Value) : Prop :=
  ∀ w, W w → if Region.wanted o (yielded ops a.tmps) then (execOp a.eval o).run P w = .ok (.value v) w else v = undef

theorem Yields.wp {i : Nat} {o : Oper} (ho : ops[i]? = some o) {a : Act} {W : World → Prop} {v : Value} (h : Yields P ops o a W v) {w : World} (hw : W w) {Q : Exit → Act → World → Prop} {K : Act → World → Prop} :
    wpOp P ops Q i K a w ↔ (K (a.put o.dst v) w ∨ (Region.wanted o (yielded ops a.tmps) = true ∧ o.asks P a w ∧ LetsOut Q)) := by
  unfold wpOp
  simp only [ho]
  have h' := h w hw
  split
  · rename_i hwt
    rw [if_pos hwt] at h'
    unfold Oper.wp
    rw [h']
    simp only [Oper.upon, hwt, true_and]
  · rename_i hwt
    rw [if_neg hwt] at h'
    subst h'
    simp [hwt]

theorem Yields.to {i : Nat} {o : Oper} (ho : ops[i]? = some o) {a : Act} {W : World → Prop} {v : Value} (h : Yields P ops o a W v) {w : World} (hw : W w) {K : Act → World → Prop} (hk : K (a.put o.dst v) w) :
    wpOp P ops (OnlyNormal R) i K a w := (h.wp ho hw).2 (.inl hk)

theorem Yields.from {i : Nat} {o : Oper} (ho : ops[i]? = some o) {a : Act} {W : World → Prop} {v : Value} (h : Yields P ops o a W v) {w : World} (hw : W w) {K : Act → World → Prop}
    (hh : wpOp P ops (OnlyNormal R) i K a w) : K (a.put o.dst v) w := by
  rcases (h.wp ho hw).1 hh with h | ⟨_, _, h⟩
  · exact h
  · exact (not_letsOut R h).elim

theorem light_yields {rd : Bool} {i : Nat} {o : Oper} (ho : ops[i]? = some o) {a : Act} {w : World} {K : Act → World → Prop} (hv : Region.wanted o (yielded ops a.tmps) = true → Valued P rd (execOp a.eval o))
    (h : wpOp P ops (OnlyNormal R) i K a w) : ∃ v, Yields P ops o a (fun w' => rd = true → Ext w w') v := by
  unfold wpOp at h
  simp only [ho] at h
  split at h
  · rename_i hwt
    rcases h with h | ⟨_, h⟩
    · unfold Oper.wp at h
      generalize hr : (execOp a.eval o).run P w = r at h
      cases r with
      | ok n w1 =>
        obtain ⟨v, rfl, rfl, hst⟩ := valued_run (hv hwt) hr
        exact ⟨v, fun w' hw' => by rw [if_pos hwt]; exact hst w' hw'⟩
      | halt x w1 => cases x <;> simp only [Oper.upon] at h; exact h.elim
    · exact (not_letsOut R h).elim
  · rename_i hwt
    exact ⟨undef, fun w' _ => by rw [if_neg hwt]⟩

theorem Yields.put {o : Oper} (hs : notSelect o = true) {a : Act} {W : World → Prop} {v : Value} (h : Yields P ops o a W v) {d : Option Tmp} (u : Value) (h1 : ∀ t, d = some t → t ∉ o.looksAt ops) : Yields P ops o (a.put d u) W v := by
  intro w hw
  rw [wanted_put o a d u h1, execOp_put o (notSelect_spec hs) a d u h1]
  exact h w hw

theorem Yields.unput {o : Oper} (hs : notSelect o = true) {a : Act} {W : World → Prop} {v : Value} {d : Option Tmp} (u : Value) (h1 : ∀ t, d = some t → t ∉ o.looksAt ops) (h : Yields P ops o (a.put d u) W v) : Yields P ops o a W v := by
  intro w hw
  have := h w hw
  rw [wanted_put o a d u h1, execOp_put o (notSelect_spec hs) a d u h1] at this
  exact this

theorem eval_tmps {a a' : Act} (h : a'.tmps = a.tmps) : a'.eval = a.eval := by
  funext x; cases x <;> simp [Act.eval, h]

theorem Yields.tmps {o : Oper} {a a' : Act} {W : World → Prop} {v : Value} (h : Yields P ops o a W v) (e : a'.tmps = a.tmps) : Yields P ops o a' W v := by
  intro w hw
  rw [e, eval_tmps e]
  exact h w hw

theorem alloc_run {o : Oper} {a : Act} (hc : clsOf P o = .alloc) {w : World} {n : Next} {w1 : World} (hr : (execOp a.eval o).run P w = .ok n w1) : ∃ v, n = .value v ∧ Ext w w1 := by
  obtain ⟨u, e, hg⟩ := alloc_grows (a := a) hc
  rw [e] at hr
  simp only [Sem.run_bind] at hr
  cases hu : u.run P w with
  | halt h w2 => rw [hu] at hr; simp [Result.andThen] at hr
  | ok v w2 =>
    rw [hu] at hr
    simp [Result.andThen] at hr
    exact ⟨v, hr.1.symm, by have := (run_grows hg hu).1; rw [hr.2] at this; exact this⟩

/-- May these two change places (the first of the two stands first in the text)? -/
def compat (P : Program) (p i : Oper) : Bool :=
  clsOf P p == .pure || clsOf P i == .pure || (clsOf P p == .load && (clsOf P i == .load || clsOf P i == .alloc))

def sideIf (ops : Array Oper) (o : Oper) (a : Act) : Prop := Region.wanted o (yielded ops a.tmps) = true → sideOf o a = true

theorem swap {p i : Nat} {op oi : Oper} (hp : ops[p]? = some op) (hi : ops[i]? = some oi) (nsp : notSelect op = true) (nsi : notSelect oi = true) (hap : op.apart ops oi = true)
    (hc : compat P op oi = true) {a : Act} {w : World} {K : Act → World → Prop} (sp : sideIf ops op a) (si : sideIf ops oi a)
    (h : wpOp P ops (OnlyNormal R) p (wpOp P ops (OnlyNormal R) i K) a w) : wpOp P ops (OnlyNormal R) i (wpOp P ops (OnlyNormal R) p K) a w := by
  obtain ⟨a1, a2, a3⟩ := Oper.apart_spec hap
  have a2' : ∀ t, oi.dst = some t → op.dst ≠ some t := fun t ht e => a2 t e ht
  by_cases hcp : clsOf P op = .pure
  · obtain ⟨v, hy⟩ := light_yields (rd := false) hp (fun hw => valued_pure hcp (sp hw)) h
    have hh := hy.from hp (fun e => by cases e) h
    refine wpOp_unput hi nsi v (d := op.dst) a1 a2 ?_ hh
    intro a' w' u e hk
    exact ((hy.put nsp u a3).tmps e).to hp (fun e => by cases e) hk
  by_cases hci : clsOf P oi = .pure
  · obtain ⟨a', w', hk, v, e⟩ := wpOp_reach h
    have hy : ∃ u, Yields P ops oi a (fun _ => True) u := by
      rw [hp] at e
      simp only [Option.bind_some] at e
      rcases e with e | e
      · have hw' : Region.wanted oi (yielded ops a'.tmps) = Region.wanted oi (yielded ops a.tmps) := by rw [e]; exact wanted_put oi a op.dst v a1
        have he' : execOp a'.eval oi = execOp a.eval oi := by rw [eval_tmps e]; exact execOp_put oi (notSelect_spec nsi) a op.dst v a1
        obtain ⟨u, hy⟩ := light_yields (rd := false) hi (fun hw => by rw [he']; exact valued_pure hci (si (by rw [← hw']; exact hw))) hk
        exact ⟨u, fun w _ => by have := hy w (fun e => by cases e); rw [hw', he'] at this; exact this⟩
      · have he' : execOp a'.eval oi = execOp a.eval oi := by rw [eval_tmps e]
        obtain ⟨u, hy⟩ := light_yields (rd := false) hi (fun hw => by rw [he']; exact valued_pure hci (si (by rw [← e]; exact hw))) hk
        exact ⟨u, fun w _ => by have := hy w (fun e => by cases e); rw [e, he'] at this; exact this⟩
    obtain ⟨u, hy⟩ := hy
    refine hy.to hi trivial ?_
    refine wpOp_put hp nsp u (d := oi.dst) a3 a2' ?_ h
    intro a' w' x e hk
    exact ((hy.put nsi x a1).tmps e).from hi trivial hk
  have hcp' : clsOf P op = .load := by
    simp only [compat, hcp, hci, beq_iff_eq, Bool.or_eq_true, Bool.and_eq_true, false_or] at hc
    exact hc.1
  obtain ⟨v, hy⟩ := light_yields (rd := true) hp (fun hw => valued_load hcp' (sp hw)) h
  have hh := hy.from hp (fun _ => Ext.refl w) h
  by_cases hcl : clsOf P oi = .load
  · obtain ⟨u, hz⟩ := light_yields (rd := true) hi (fun hw => by
      rw [execOp_put oi (notSelect_spec nsi) a op.dst v a1]
      exact valued_load hcl (si (by rw [← wanted_put oi a op.dst v a1]; exact hw))) hh
    have hk := hz.from hi (fun _ => Ext.refl w) hh
    refine (hz.unput nsi v a1).to hi (fun _ => Ext.refl w) ?_
    refine (hy.put nsp u a3).to hp (fun _ => Ext.refl w) ?_
    rw [Act.put_comm a u v (fun t ht => a2' t ht)]
    exact hk
  · have hca : clsOf P oi = .alloc := by
      simp only [compat, hcp, hci, hcl, beq_iff_eq, Bool.or_eq_true, Bool.and_eq_true, false_or] at hc
      exact hc.2
    unfold wpOp at hh ⊢
    simp only [hi] at hh ⊢
    rw [wanted_put oi a op.dst v a1] at hh
    split
    · rename_i hw
      simp only [hw, if_true] at hh
      rcases hh with hh | ⟨_, hh⟩
      · left
        unfold Oper.wp at *
        rw [execOp_put oi (notSelect_spec nsi) a op.dst v a1] at hh
        generalize hr : (execOp a.eval oi).run P w = r at *
        cases r with
        | ok n w1 =>
          obtain ⟨u, rfl, he⟩ := alloc_run hca hr
          simp only [Oper.upon] at hh ⊢
          refine (hy.put nsp u a3).to hp (fun _ => he) ?_
          rw [Act.put_comm a u v (fun t ht => a2' t ht)]
          exact hh
        | halt x w' => cases x <;> simp only [Oper.upon] at hh; exact hh.elim
      · exact (not_letsOut R hh).elim
    · rename_i hw
      simp only [hw] at hh
      refine (hy.put nsp undef a3).to hp (fun _ => Ext.refl w) ?_
      rw [Act.put_comm a undef v (fun t ht => a2' t ht)]
      exact hh
end

/-! ### The check of a region, and the theorem -/
/-- Does j follow on i by the edges, at once or in steps? -/
inductive Dep (ops : Array Oper) : Nat → Nat → Prop
  | one {i j : Nat} {o : Oper} {e : Edge} (ho : ops[j]? = some o) (he : e ∈ o.after) (hb : Region.binds .any e = true) (hi : e.on = i) : Dep ops i j
  | step {i k j : Nat} (h : Dep ops i k) (h2 : Dep ops k j) : Dep ops i j

def hasBit (x i : Nat) : Bool := (x / 2 ^ i) % 2 == 1
def orBit (x i : Nat) : Nat := if hasBit x i then x else x + 2 ^ i

def bitsOne (acc : List Nat) (o : Oper) : Nat := o.after.toList.foldl (fun s e => if Region.binds .any e then Nat.lor (Nat.lor s (2 ^ e.on)) (acc.getD e.on 0) else s) 0
def bitsAll : List Oper → List Nat → List Nat
  | [], acc => acc
  | o :: l, acc => bitsAll l (acc ++ [bitsOne acc o])

theorem bitsOne_spec {ops : Array Oper} {acc : List Nat} {o : Oper} {j : Nat} (ho : ops[j]? = some o) (hacc : ∀ k i, Nat.testBit (acc.getD k 0) i = true → Dep ops i k) (i : Nat)
    (h : Nat.testBit (bitsOne acc o) i = true) : Dep ops i j := by
  unfold bitsOne at h
  have key : ∀ (l : List Edge) (s : Nat), (∀ e ∈ l, e ∈ o.after) → (Nat.testBit s i = true → Dep ops i j) →
      Nat.testBit (l.foldl (fun s e => if Region.binds .any e then Nat.lor (Nat.lor s (2 ^ e.on)) (acc.getD e.on 0) else s) s) i = true → Dep ops i j := by
    intro l
    induction l with
    | nil => intro s _ hs h; exact hs h
    | cons e l ih =>
      intro s hl hs h
      rw [List.foldl_cons] at h
      refine ih _ (fun x hx => hl x (List.mem_cons_of_mem _ hx)) ?_ h
      intro h
      split at h
      · rename_i hb
        have hone : Dep ops e.on j := .one ho (hl e (List.mem_cons_self ..)) hb rfl
        change Nat.testBit ((s ||| 2 ^ e.on) ||| acc.getD e.on 0) i = true at h
        rw [Nat.testBit_or, Nat.testBit_or, Bool.or_eq_true, Bool.or_eq_true] at h
        rcases h with (h | h) | h
        · exact hs h
        · rw [Nat.testBit_two_pow] at h
          simp at h
          subst h
          exact hone
        · exact .step (hacc _ _ h) hone
      · exact hs h
  exact key o.after.toList 0 (fun e he => by simpa using he) (by simp) h

theorem bitsAll_spec {ops : Array Oper} : ∀ (l : List Oper) (acc : List Nat), (∀ k, l[k]? = ops[acc.length + k]?) → (∀ k i, Nat.testBit (acc.getD k 0) i = true → Dep ops i k) →
    ∀ k i, Nat.testBit ((bitsAll l acc).getD k 0) i = true → Dep ops i k
  | [], acc, _, h, k, i, hb => h k i hb
  | o :: l, acc, hl, h, k, i, hb => by
    refine bitsAll_spec l (acc ++ [bitsOne acc o]) ?_ ?_ k i hb
    · intro k
      have := hl (k + 1)
      simp only [List.length_append, List.length_cons, List.length_nil, List.getElem?_cons_succ] at *
      rw [this]; congr 1; omega
    · intro k i hb
      have ho : ops[acc.length]? = some o := by have := hl 0; simpa using this.symm
      rcases Nat.lt_trichotomy k acc.length with hk | hk | hk
      · refine h k i ?_
        rw [List.getD_eq_getElem?_getD, List.getElem?_append_left hk] at hb
        rw [List.getD_eq_getElem?_getD]; exact hb
      · subst hk
        rw [List.getD_eq_getElem?_getD, List.getElem?_append_right (Nat.le_refl _)] at hb
        simp at hb
        exact bitsOne_spec ho h i hb
      · rw [List.getD_eq_getElem?_getD, List.getElem?_eq_none (by simp; omega)] at hb
        simp at hb

/-- An operation of whose operands nothing need be known. -/
def easy (o : Oper) : Bool := match o.op with | .binOp .. | .unOp .. | .convert .. | .lookup .. => false | _ => true
theorem side_easy {o : Oper} (h : easy o = true) (a : Act) : sideOf o a = true := by
  unfold easy at h
  unfold sideOf
  split <;> first | rfl | (rename_i e; rw [e] at h; cases h)

/-- May the region be walked in the order of its text? -/
def canonC (P : Program) (l : List Oper) (c : Nat) : Bool :=
  let ops := l.toArray
  let bits := bitsAll l []
  (List.range l.length).all fun i => match ops[i]? with
    | none => true
    | some oi =>
      notSelect oi && (oi.after.toList.all fun e => !Region.binds .any e || decide (e.on < i)) && (easy oi || oi.dst.all fun d => !(oi.looksAt ops).contains d) &&
      (List.range i).all fun p => match ops[p]? with
        | none => true
        | some op => (easy op || oi.dst.all fun d => !(op.looksAt ops).contains d) && (p == c || i == c || Nat.testBit (bits.getD i 0) p || (op.apart ops oi && compat P op oi))
def canonB (P : Program) (l : List Oper) : Bool := canonC P l l.length

structure CanonOk (P : Program) (ops : Array Oper) (c : Nat) : Prop where
  ns : ∀ (i : Nat) o, ops[i]? = some o → notSelect o = true
  back : ∀ (i : Nat) o, ops[i]? = some o → ∀ e ∈ o.after, Region.binds .any e = true → e.on < i
  own : ∀ (i : Nat) o, ops[i]? = some o → easy o = true ∨ ∀ d, o.dst = some d → d ∉ o.looksAt ops
  later : ∀ (p i : Nat) op oi, ops[p]? = some op → ops[i]? = some oi → p < i → easy op = true ∨ ∀ d, oi.dst = some d → d ∉ op.looksAt ops
  free : ∀ (p i : Nat) op oi, ops[p]? = some op → ops[i]? = some oi → p < i → p ≠ c → i ≠ c → Dep ops p i ∨ (op.apart ops oi = true ∧ compat P op oi = true)

theorem all_some {d : Option Nat} {l : List Nat} (h : (d.all fun d => !l.contains d) = true) : ∀ t, d = some t → t ∉ l := by
  intro t ht hm
  subst ht
  simp at h
  exact h hm

theorem canonB_ok {P : Program} {l : List Oper} {c : Nat} (h : canonC P l c = true) : CanonOk P l.toArray c := by
  have hb := bitsAll_spec (ops := l.toArray) l [] (fun k => by simp) (fun k i h => by simp at h)
  unfold canonC at h
  have lt : ∀ (i : Nat) o, l.toArray[i]? = some o → i < l.length := fun i o ho => by
    have := (Array.getElem?_eq_some_iff.1 ho).1
    simpa using this
  have key : ∀ (i : Nat) oi, l.toArray[i]? = some oi → notSelect oi = true ∧ (∀ e ∈ oi.after, Region.binds .any e = true → e.on < i) ∧ (easy oi = true ∨ ∀ d, oi.dst = some d → d ∉ oi.looksAt l.toArray) ∧
      ∀ (p : Nat) op, p < i → l.toArray[p]? = some op → (easy op = true ∨ ∀ d, oi.dst = some d → d ∉ op.looksAt l.toArray) ∧ (p ≠ c → i ≠ c → Dep l.toArray p i ∨ (op.apart l.toArray oi = true ∧ compat P op oi = true)) := by
    intro i oi ho
    have h1 := List.all_eq_true.1 h i (List.mem_range.2 (lt i oi ho))
    simp only [ho, Bool.and_eq_true] at h1
    obtain ⟨⟨⟨h1, h2⟩, h3⟩, h4⟩ := h1
    refine ⟨h1, ?_, (Bool.or_eq_true _ _ ▸ h3 : _ ∨ _).imp id all_some, ?_⟩
    · intro e he hbd
      have := List.all_eq_true.1 h2 e (by simpa using he)
      simp [hbd] at this
      exact this
    · intro p op hp hop
      have h5 := List.all_eq_true.1 h4 p (List.mem_range.2 hp)
      simp only [hop, Bool.and_eq_true, Bool.or_eq_true] at h5
      refine ⟨h5.1.imp id all_some, fun hpc hic => ?_⟩
      rcases h5.2 with ((h6 | h6) | h6) | h6
      · exact absurd (by simpa using h6) hpc
      · exact absurd (by simpa using h6) hic
      · exact .inl (hb i p h6)
      · exact .inr h6
  exact ⟨fun i o ho => (key i o ho).1, fun i o ho => (key i o ho).2.1, fun i o ho => (key i o ho).2.2.1, fun p i op oi hp hi hlt => ((key i oi hi).2.2.2 p op hlt hp).1,
    fun p i op oi hp hi hlt => ((key i oi hi).2.2.2 p op hlt hp).2⟩

section
variable {P : Program} {ops : Array Oper} {R : Act → World → Prop}

theorem wpOp_weaken {Q : Exit → Act → World → Prop} {i : Nat} {K : Act → World → Prop} {a : Act} {w : World} (h : wpOp P ops (OnlyNormal R) i K a w) : wpOp P ops Q i K a w := by
  unfold wpOp at *
  split
  · rename_i ho; simp only [ho] at h; exact h
  · rename_i o ho
    simp only [ho] at h
    split
    · rename_i hw
      simp only [hw, if_true] at h
      rcases h with h | ⟨_, h⟩
      · left
        unfold Oper.wp at *
        generalize (execOp a.eval o).run P w = r at *
        cases r with
        | ok n w' =>
          cases n <;> simp only [Oper.upon] at h ⊢ <;> try exact h
          case enter f args =>
            refine Calls.mono h fun e w'' he => ?_
            cases e with
            | returned u => exact he
            | panicked chain => exact he.elim
            | outgrown => exact (not_letsOut R he).elim
        | halt x w' => cases x <;> simp only [Oper.upon] at h; exact h.elim
      · exact (not_letsOut R h).elim
    · rename_i hw
      simp only [hw] at h
      exact h

def noWrite (ops : Array Oper) (j : Nat) (o : Oper) : Prop := easy o = true ∨ ∀ oj, ops[j]? = some oj → ∀ d, oj.dst = some d → d ∉ o.looksAt ops

theorem sideOf_put {o : Oper} {a : Act} {d : Option Tmp} (v : Value) (h : ∀ t, d = some t → t ∉ o.looksAt ops) : sideOf o (a.put d v) = sideOf o a := by
  have ev : ∀ x ∈ o.op.operands, (a.put d v).eval x = a.eval x := fun x hx => Act.eval_put fun t ht hxt => h t ht (by
    subst hxt
    exact List.mem_append_left _ (List.mem_filterMap.2 ⟨.tmp t, by simpa using hx, rfl⟩))
  unfold sideOf
  split
  · rename_i op t x y t' hop
    rw [hop] at ev
    rw [ev x (by simp [Op.operands]), ev y (by simp [Op.operands])]
  · rename_i op t x hop
    rw [hop] at ev
    rw [ev x (by simp [Op.operands])]
  · rename_i s t x hop
    rw [hop] at ev
    rw [ev x (by simp [Op.operands])]
  · rename_i s t x c hop
    rw [hop] at ev
    rw [ev x (by simp [Op.operands])]
  · rfl

theorem side_now (hR : ∀ a w, R a w → ∀ (j : Nat) o, ops[j]? = some o → sideIf ops o a) {q : Nat} {o : Oper} (hq : ops[q]? = some o) {js : List Nat} (hj : ∀ j ∈ js, noWrite ops j o) {a : Act} {w : World}
    (h : wpOps P ops (OnlyNormal R) js a w) : sideIf ops o a := by
  cases he : easy o with
  | true => exact fun _ => side_easy he a
  | false =>
  have hj : ∀ j ∈ js, ∀ oj, ops[j]? = some oj → ∀ d, oj.dst = some d → d ∉ o.looksAt ops := fun j hjm => (hj j hjm).resolve_left (by rw [he]; decide)
  have := wpOps_const (φ := fun tmps => sideIf ops o ⟨tmps, []⟩) (fun a' w' hr => by
      have := hR a' w' hr q o hq
      exact this) js a w (fun j hjm a v => by
      intro h
      cases hoj : ops[j]? with
      | none => simp only [hoj, Option.bind_none, Act.put] at h; exact h
      | some oj =>
        have hw := hj j hjm oj hoj
        simp only [hoj, Option.bind_some] at h
        intro hwt
        have h1 := h (by
          have := wanted_put (ops := ops) o a oj.dst v hw
          rw [← this] at hwt
          exact hwt)
        have e : ({ tmps := (a.put oj.dst v).tmps, defers := [] } : Act) = ({ tmps := a.tmps, defers := [] } : Act).put oj.dst v := by cases oj.dst <;> rfl
        rw [e, sideOf_put (ops := ops) v hw] at h1
        exact h1) h
  exact this

theorem move (hR : ∀ a w, R a w → ∀ (j : Nat) o, ops[j]? = some o → sideIf ops o a) {i : Nat} {oi : Oper} (hi : ops[i]? = some oi) (nsi : notSelect oi = true) (post : List Nat)
    (hpost : ∀ j ∈ post, noWrite ops j oi) (hself : noWrite ops i oi) : ∀ (pre : List Nat),
    (∀ p ∈ pre, noWrite ops p oi ∧ ∃ op, ops[p]? = some op ∧ notSelect op = true ∧ op.apart ops oi = true ∧ compat P op oi = true ∧ noWrite ops i op ∧ noWrite ops p op ∧ ∀ j ∈ post, noWrite ops j op) →
    (∀ p ∈ pre, ∀ q ∈ pre, ∀ op, ops[p]? = some op → p ≤ q → noWrite ops q op) → pre.Pairwise (· < ·) →
    ∀ (a : Act) (w : World), wpOps P ops (OnlyNormal R) (pre ++ i :: post) a w → wpOps P ops (OnlyNormal R) (i :: (pre ++ post)) a w
  | [], _, _, _, a, w, h => h
  | p :: pre, hp, hpq, hs, a, w, h => by
    obtain ⟨hpi, op, hop, nsp, hap, hc, hip, hpp, hpost'⟩ := hp p (List.mem_cons_self ..)
    rw [List.pairwise_cons] at hs
    have hlater : ∀ j ∈ p :: (pre ++ i :: post), noWrite ops j op := by
      intro j hj
      rcases List.mem_cons.1 hj with rfl | hj
      · exact hpp
      rcases List.mem_append.1 hj with hj | hj
      · exact hpq p (List.mem_cons_self ..) j (List.mem_cons_of_mem _ hj) op hop (Nat.le_of_lt (hs.1 j hj))
      rcases List.mem_cons.1 hj with rfl | hj
      · exact hip
      · exact hpost' j hj
    have hlateri : ∀ j ∈ p :: (pre ++ i :: post), noWrite ops j oi := by
      intro j hj
      rcases List.mem_cons.1 hj with rfl | hj
      · exact hpi
      rcases List.mem_append.1 hj with hj | hj
      · exact (hp j (List.mem_cons_of_mem _ hj)).1
      rcases List.mem_cons.1 hj with rfl | hj
      · exact hself
      · exact hpost j hj
    rw [List.cons_append] at h
    have sp := side_now hR hop hlater h
    have si := side_now hR hi hlateri h
    rw [wpOps_cons] at h
    have h2 := wpOp_mono (fun a w => move hR hi nsi post hpost hself pre (fun q hq => hp q (List.mem_cons_of_mem _ hq)) (fun x hx y hy => hpq x (List.mem_cons_of_mem _ hx) y (List.mem_cons_of_mem _ hy)) hs.2 a w) h
    have h3 : wpOp P ops (OnlyNormal R) p (wpOp P ops (OnlyNormal R) i (wpOps P ops (OnlyNormal R) (pre ++ post))) a w := wpOp_mono (fun a w h => by rw [wpOps_cons] at h; exact h) h2
    have h4 := swap hop hi nsp nsi hap hc sp si h3
    rw [wpOps_cons]
    exact wpOp_mono (fun a w h => by rw [List.cons_append, wpOps_cons]; exact h) h4

/-- What has been listed is closed under the edges. -/
structure Down (ops : Array Oper) (listed : Array Bool) : Prop where
  size : listed.size = ops.size
  closed : ∀ (j : Nat) o, ops[j]? = some o → listed.getD j false = true → ∀ e ∈ o.after, Region.binds .any e = true → listed.getD e.on false = true

theorem Down.dep {listed : Array Bool} (h : Down ops listed) {i j : Nat} (hd : Dep ops i j) : listed.getD j false = true → listed.getD i false = true := by
  induction hd with
  | one ho he hb hi => intro hl; subst hi; exact h.closed _ _ ho hl _ he hb
  | step _ _ ih1 ih2 => intro hl; exact ih1 (ih2 hl)

theorem Down.ready {listed : Array Bool} (h : Down ops listed) {i j : Nat} (hd : Dep ops i j) (hr : j ∈ Region.ready .any ops listed) : listed.getD i false = true := by
  obtain ⟨_, o, ho, hall⟩ := mem_ready.1 hr
  cases hd with
  | one ho' he hb hi =>
    subst hi
    rw [ho] at ho'
    cases ho'
    exact hall _ he hb
  | step h1 h2 =>
    have : ∀ k, Dep ops k j → listed.getD k false = true := by
      intro k hk
      clear h1 h2
      generalize hjj : j = j' at hk
      induction hk with
      | one ho' he hb hi =>
        subst hi; subst hjj
        rw [ho] at ho'; cases ho'
        exact hall _ he hb
      | step h1 h2 ih1 ih2 => exact h.dep h1 (ih2 hjj)
    exact this i (.step h1 h2)

def rest (ops : Array Oper) (listed : Array Bool) : List Nat := (List.range ops.size).filter fun i => !listed.getD i true

theorem mem_rest {listed : Array Bool} (hs : listed.size = ops.size) {i : Nat} : i ∈ rest ops listed ↔ i < ops.size ∧ listed.getD i false = false := by
  unfold rest
  rw [List.mem_filter, List.mem_range]
  constructor
  · rintro ⟨h1, h2⟩
    refine ⟨h1, ?_⟩
    have : i < listed.size := by omega
    simp [this] at h2 ⊢
    exact h2
  · rintro ⟨h1, h2⟩
    refine ⟨h1, ?_⟩
    have : i < listed.size := by omega
    simp [this] at h2 ⊢
    exact h2

theorem rest_set {listed : Array Bool} (hs : listed.size = ops.size) {i : Nat} (hi : i ∈ rest ops listed) :
    ∃ pre post, rest ops listed = pre ++ i :: post ∧ rest ops (listed.setIfInBounds i true) = pre ++ post := by
  obtain ⟨pre, post, e⟩ := List.append_of_mem hi
  refine ⟨pre, post, e, ?_⟩
  have hnd : (rest ops listed).Nodup := List.Pairwise.filter _ List.nodup_range
  have h1 : rest ops (listed.setIfInBounds i true) = (rest ops listed).filter fun j => j != i := by
    unfold rest
    rw [List.filter_filter]
    apply List.filter_congr
    intro j hj
    have hj' : j < listed.size := by rw [hs]; exact List.mem_range.1 hj
    by_cases hji : j = i
    · subst hji; simp [hj']
    · simp [hji, Array.getElem?_setIfInBounds_ne (Ne.symm hji)]
  rw [h1, e]
  rw [e] at hnd
  rw [List.nodup_append, List.nodup_cons] at hnd
  obtain ⟨_, ⟨h3, _⟩, h4⟩ := hnd
  rw [List.filter_append, List.filter_cons]
  simp only [bne_self_eq_false, Bool.false_eq_true, if_false]
  congr 1
  · apply List.filter_eq_self.2
    intro x hx
    have := h4 x hx i (List.mem_cons_self ..)
    simpa using this
  · apply List.filter_eq_self.2
    intro x hx
    have : x ≠ i := fun e => h3 (e ▸ hx)
    simpa using this

theorem rest_sorted (listed : Array Bool) : (rest ops listed).Pairwise (· < ·) := List.Pairwise.filter _ List.pairwise_lt_range

theorem any_of_text {c : Nat} (ok : CanonOk P ops c) {Q : Exit → Act → World → Prop} (hR : ∀ a w, R a w → ∀ (j : Nat) o, ops[j]? = some o → sideIf ops o a) (hQ : ∀ a w, R a w → Q .normal a w) :
    ∀ (fuel : Nat) (listed : Array Bool), Down ops listed → c ∉ rest ops listed → (rest ops listed).length = fuel → ∀ (a : Act) (w : World), wpOps P ops (OnlyNormal R) (rest ops listed) a w → wpAny P .any ops Q fuel listed a w
  | fuel, listed, hd, hnc, hl, a, w, h => by
    have hnil : Region.ready .any ops listed = [] → rest ops listed = [] := by
      intro hn
      cases hr : rest ops listed with
      | nil => rfl
      | cons i l =>
        exfalso
        have hi : i ∈ rest ops listed := by rw [hr]; exact List.mem_cons_self ..
        obtain ⟨hi1, hi2⟩ := (mem_rest hd.size).1 hi
        have hsome : ops[i]? = some ops[i] := Array.getElem?_eq_getElem hi1
        have hmem : i ∈ Region.ready .any ops listed := by
          refine mem_ready.2 ⟨?_, ops[i], hsome, fun e he hb => ?_⟩
          · have : i < listed.size := by rw [hd.size]; exact hi1
            simp [this] at hi2 ⊢; exact hi2
          · have hlt := ok.back i _ hsome e he hb
            cases hle : listed.getD e.on false with
            | true => rfl
            | false =>
              have hm : e.on ∈ rest ops listed := (mem_rest hd.size).2 ⟨by omega, hle⟩
              rw [hr] at hm
              have hs := rest_sorted (ops := ops) listed
              rw [hr, List.pairwise_cons] at hs
              rcases List.mem_cons.1 hm with e' | hm
              · omega
              · have := hs.1 _ hm; omega
        rw [hn] at hmem; cases hmem
    have hend : Region.ready .any ops listed = [] → Q .normal a w := by
      intro hn
      rw [hnil hn] at h
      exact hQ a w h
    cases fuel with
    | zero =>
      have hr : rest ops listed = [] := List.eq_nil_of_length_eq_zero hl
      have hn : Region.ready .any ops listed = [] := by
        cases hc : Region.ready .any ops listed with
        | nil => rfl
        | cons i l =>
          exfalso
          have hm : i ∈ Region.ready .any ops listed := by rw [hc]; exact List.mem_cons_self ..
          obtain ⟨h1, o, ho, _⟩ := mem_ready.1 hm
          have hlt := (Array.getElem?_eq_some_iff.1 ho).1
          have : i ∈ rest ops listed := by
            unfold rest; rw [List.mem_filter, List.mem_range]; exact ⟨hlt, by rw [h1]; rfl⟩
          rw [hr] at this; cases this
      exact ⟨hn, hend hn⟩
    | succ fuel =>
      refine ⟨hend, fun i hi => ?_⟩
      obtain ⟨h1, oi, hoi, hall⟩ := mem_ready.1 hi
      have hilt := (Array.getElem?_eq_some_iff.1 hoi).1
      have him : i ∈ rest ops listed := by
        unfold rest; rw [List.mem_filter, List.mem_range]; exact ⟨hilt, by rw [h1]; rfl⟩
      obtain ⟨pre, post, e1, e2⟩ := rest_set hd.size him
      have hsorted := rest_sorted (ops := ops) listed
      rw [e1] at hsorted
      rw [List.pairwise_append, List.pairwise_cons] at hsorted
      obtain ⟨hs1, ⟨hs2, hs3⟩, hs4⟩ := hsorted
      have unl : ∀ p ∈ pre, listed.getD p false = false ∧ p < i := fun p hp => by
        refine ⟨((mem_rest hd.size).1 (by rw [e1]; exact List.mem_append_left _ hp)).2, hs4 p hp i (List.mem_cons_self ..)⟩
      have some_of : ∀ p ∈ rest ops listed, ∃ op, ops[p]? = some op := fun p hp => ⟨_, Array.getElem?_eq_getElem ((mem_rest hd.size).1 hp).1⟩
      have nw : ∀ (p q : Nat) op, ops[p]? = some op → p ≤ q → noWrite ops q op := by
        intro p q op hop hpq
        cases he : easy op with
        | true => exact .inl he
        | false =>
        refine .inr fun oq hoq d hd' => ?_
        rcases Nat.eq_or_lt_of_le hpq with rfl | hlt
        · rw [hop] at hoq; cases hoq; exact (ok.own _ _ hop).resolve_left (by rw [he]; decide) d hd'
        · exact (ok.later p q op oq hop hoq hlt).resolve_left (by rw [he]; decide) d hd'
      have hfree : ∀ p ∈ pre, ∀ op, ops[p]? = some op → op.apart ops oi = true ∧ compat P op oi = true := by
        intro p hp op hop
        obtain ⟨hu, hlt⟩ := unl p hp
        rcases ok.free p i op oi hop hoi hlt (fun e => hnc (by rw [e1, ← e]; exact List.mem_append_left _ hp)) (fun e => hnc (by rw [← e]; exact him)) with hdep | hf
        · have := hd.ready hdep hi
          rw [hu] at this; cases this
        · exact hf
      rw [e1] at h
      have h2 := move hR hoi (ok.ns _ _ hoi) post (fun j hj => nw i j oi hoi (Nat.le_of_lt (hs2 j hj))) (nw i i oi hoi (Nat.le_refl _)) pre
        (fun p hp => by
          obtain ⟨op, hop⟩ := some_of p (by rw [e1]; exact List.mem_append_left _ hp)
          obtain ⟨hap, hcp⟩ := hfree p hp op hop
          refine ⟨?_, op, hop, ok.ns _ _ hop, hap, hcp, nw p i op hop (Nat.le_of_lt (unl p hp).2), nw p p op hop (Nat.le_refl _), fun j hj => nw p j op hop (Nat.le_of_lt (hs4 p hp j (List.mem_cons_of_mem _ hj)))⟩
          refine .inr fun oj hoj d hd' => ?_
          rw [hop] at hoj; cases hoj
          exact (Oper.apart_spec hap).1 d hd')
        (fun p hp q hq op hop hpq => nw p q op hop hpq) hs1 a w h
      rw [wpOps_cons] at h2
      refine wpOp_mono (fun a w h3 => ?_) (wpOp_weaken h2)
      have hd' : Down ops (listed.setIfInBounds i true) := by
        refine ⟨by simp [hd.size], fun j oj hj hlj e he hb => ?_⟩
        have up : ∀ k, listed.getD k false = true → (listed.setIfInBounds i true).getD k false = true := by
          intro k hk
          by_cases hki : k = i
          · subst hki
            have : k < listed.size := by rw [hd.size]; exact hilt
            simp [this]
          · simpa [Array.getElem?_setIfInBounds_ne (Ne.symm hki)] using hk
        by_cases hji : j = i
        · subst hji
          rw [hoi] at hj; cases hj
          exact up _ (hall e he hb)
        · refine up _ (hd.closed j oj hj ?_ e he hb)
          simpa [Array.getElem?_setIfInBounds_ne (Ne.symm hji)] using hlj
      rw [← e2] at h3
      refine any_of_text ok hR hQ fuel _ hd' (fun hm => hnc (by rw [e2] at hm; rw [e1]; exact (List.mem_append.1 hm).elim (List.mem_append_left _) (fun h => List.mem_append_right _ (List.mem_cons_of_mem _ h)))) ?_ a w h3
      rw [e2]
      rw [e1] at hl
      simp only [List.length_append, List.length_cons] at hl ⊢
      omega

/-- The sides of all operations, told of the last act. -/
def sideB (l : List Oper) (a : Act) : Bool := l.all fun o => !Region.wanted o (yielded l.toArray a.tmps) || sideOf o a

/-- A REGION THAT DRAWS ITS ORDER, WALKED IN THE ORDER OF ITS TEXT. -/
theorem wp_canon {P : Program} {l : List Oper} {Q : Exit → Act → World → Prop} {a : Act} {w : World} {id : Nat} (hm : P.follows .mixedOrders = true) (hc : canonB P l = true)
    (h : wpList P l.toArray (OnlyNormal fun a w => sideB l a = true ∧ Q .normal a w) l a w.drew) : (Code.region id l.toArray true).wp P Q a w := by
  have ok := canonB_ok hc
  refine wp_region_any hm ?_
  have hdrew : ({ w with drawn := w.drawn + 1 } : World) = w.drew := rfl
  rw [hdrew]
  have hrest : rest l.toArray (Array.replicate l.toArray.size false) = List.range l.length := by
    unfold rest
    rw [List.filter_eq_self.2]
    · simp
    · intro i hi
      have := List.mem_range.1 hi
      simp at this
      simp [this]
  refine any_of_text (R := fun a w => sideB l a = true ∧ Q .normal a w) ok ?_ (fun a w h => h.2) _ _ ?_ ?_ ?_ a _ ?_
  · intro a w hr j o ho hw
    have h1 := List.all_eq_true.1 hr.1 o (by
      have := (Array.getElem?_eq_some_iff.1 ho)
      obtain ⟨hlt, e⟩ := this
      subst e
      simp)
    rw [hw] at h1
    simpa using h1
  · refine ⟨by simp, fun j o ho hl => ?_⟩
    exfalso
    simp at hl
    rw [Array.getElem?_replicate] at hl
    split at hl <;> simp at hl
  · rw [hrest]; simp
  · rw [hrest]; simp
  · rw [hrest, List.range_eq_range', wpOps_eq_wpList l 0 (by simp)]
    exact h
end
end Vl
/- A region that draws its order and holds one call of a function: it is enough to walk it in the text's order with the call at each place that the draw can give it among the operations that read or make memory. No program in sight. -/
namespace Vl
open Go
set_option linter.unusedVariables false
section
variable {P : Program} {ops : Array Oper} {R : Act → World → Prop} {c : Nat}

structure CallOk (P : Program) (ops : Array Oper) (c : Nat) : Prop where
  ok : CanonOk P ops c
  lt : c < ops.size
  apartc : ∀ (j : Nat) oj oc, ops[j]? = some oj → ops[c]? = some oc → j ≠ c → Dep ops j c ∨ Dep ops c j ∨ (oj.apart ops oc = true ∧ oc.apart ops oj = true)
  kind : ∀ (j : Nat) oj, ops[j]? = some oj → j ≠ c → Dep ops c j ∨ clsOf P oj ≠ .heavy
  sym : ∀ (p i : Nat) op oi, ops[p]? = some op → ops[i]? = some oi → p < i → p ≠ c → i ≠ c → Dep ops p i ∨ oi.apart ops op = true

theorem dep_lt (ok : CanonOk P ops c) {i j : Nat} (h : Dep ops i j) : i < j := by
  induction h with
  | one ho he hb hi => subst hi; exact ok.back _ _ ho _ he hb
  | step _ _ h1 h2 => omega

theorem CallOk.nw (ok : CallOk P ops c) {p j : Nat} {op : Oper} (hop : ops[p]? = some op) (h : p ≤ j ∨ ¬ Dep ops j p) : noWrite ops j op := by
  cases he : easy op with
  | true => exact .inl he
  | false =>
  have hne : ¬ easy op = true := by rw [he]; decide
  refine .inr fun oj hoj d hd => ?_
  rcases Nat.lt_trichotomy p j with hlt | rfl | hgt
  · exact (ok.ok.later p j op oj hop hoj hlt).resolve_left hne d hd
  · rw [hop] at hoj; cases hoj; exact (ok.ok.own _ _ hop).resolve_left hne d hd
  · have hnd : ¬ Dep ops j p := h.resolve_left (by omega)
    by_cases hjc : j = c
    · subst hjc
      rcases ok.apartc p op oj hop hoj (by omega) with h1 | h1 | ⟨_, h1⟩
      · have := dep_lt ok.ok h1; omega
      · exact absurd h1 hnd
      · exact (Oper.apart_spec h1).1 d hd
    by_cases hpc : p = c
    · subst hpc
      rcases ok.apartc j oj op hoj hop hjc with h1 | h1 | ⟨h1, _⟩
      · exact absurd h1 hnd
      · have := dep_lt ok.ok h1; omega
      · exact (Oper.apart_spec h1).1 d hd
    · rcases ok.ok.free j p oj op hoj hop hgt hjc hpc with h1 | ⟨h1, _⟩
      · exact absurd h1 hnd
      · exact (Oper.apart_spec h1).1 d hd

/-- An operation that is no call runs one way: what holds behind it for each of many holds behind it for all of them. -/
theorem wpOp_all {ι : Type} [Nonempty ι] {i : Nat} {o : Oper} (ho : ops[i]? = some o) (hk : clsOf P o ≠ .heavy) {K : ι → Act → World → Prop} {a : Act} {w : World} (hs : sideIf ops o a)
    (h : ∀ x, wpOp P ops (OnlyNormal R) i (K x) a w) : wpOp P ops (OnlyNormal R) i (fun a w => ∀ x, K x a w) a w := by
  obtain ⟨x0⟩ := ‹Nonempty ι›
  unfold wpOp at h ⊢
  simp only [ho] at h ⊢
  by_cases hw : Region.wanted o (yielded ops a.tmps) = true
  · simp only [hw, if_true] at h ⊢
    have hside := hs hw
    have h' : ∀ x, Oper.wp P o a w (K x) (OnlyNormal R) := fun x => (h x).elim id fun h => absurd h.2 (not_letsOut R)
    refine .inl ?_
    unfold Oper.wp at h' ⊢
    have hval : ∀ n w1, (execOp a.eval o).run P w = .ok n w1 → ∃ v, n = .value v := by
      intro n w1 hr
      cases hc : clsOf P o with
      | pure => obtain ⟨v, e, _⟩ := valued_run (valued_pure hc hside) hr; exact ⟨v, e⟩
      | load => obtain ⟨v, e, _⟩ := valued_run (valued_load hc hside) hr; exact ⟨v, e⟩
      | alloc => obtain ⟨v, e, _⟩ := alloc_run hc hr; exact ⟨v, e⟩
      | heavy => exact absurd hc hk
    generalize hr : (execOp a.eval o).run P w = r at *
    cases r with
    | ok n w1 =>
      obtain ⟨v, rfl⟩ := hval n w1 rfl
      exact fun x => h' x
    | halt x w1 =>
      have := h' x0
      cases x <;> simp only [Oper.upon] at this ⊢
      all_goals exact this
  · simp only [hw] at h ⊢
    exact fun x => h x

def cutL (M : Nat → Bool) (c : Nat) (r : List Nat) : List Nat := r.filter (fun j => M j) ++ c :: r.filter (fun j => !M j && j != c)

/-- A set of operations that may all come ahead of the call. -/
structure Closed (ops : Array Oper) (listed : Array Bool) (c : Nat) (M : Nat → Bool) : Prop where
  not : M c = false
  dep : ∀ j o, ops[j]? = some o → (M j = true ∨ j = c) → listed.getD j false = false → ∀ e ∈ o.after, Region.binds .any e = true → listed.getD e.on false = true ∨ M e.on = true

/-- Behind an operation that has been listed. -/
theorem down_set {listed : Array Bool} (hd : Down ops listed) {i : Nat} {oi : Oper} (hoi : ops[i]? = some oi) (hall : ∀ e ∈ oi.after, Region.binds .any e = true → listed.getD e.on false = true) : Down ops (listed.setIfInBounds i true) := by
  have hilt := (Array.getElem?_eq_some_iff.1 hoi).1
  refine ⟨by simp [hd.size], fun j oj hj hlj e he hb => ?_⟩
  have up : ∀ k, listed.getD k false = true → (listed.setIfInBounds i true).getD k false = true := by
    intro k hk
    by_cases hki : k = i
    · subst hki
      have : k < listed.size := by rw [hd.size]; exact hilt
      simp [this]
    · simpa [Array.getElem?_setIfInBounds_ne (Ne.symm hki)] using hk
  by_cases hji : j = i
  · subst hji
    rw [hoi] at hj; cases hj
    exact up _ (hall e he hb)
  · refine up _ (hd.closed j oj hj ?_ e he hb)
    simpa [Array.getElem?_setIfInBounds_ne (Ne.symm hji)] using hlj

theorem getD_set {listed : Array Bool} {i j : Nat} (hs : i < listed.size) : (listed.setIfInBounds i true).getD j false = (listed.getD j false || decide (j = i)) := by
  by_cases h : j = i
  · subst h; simp [hs]
  · simp [Array.getElem?_setIfInBounds_ne (Ne.symm h), h]

/-- An unlisted operation on which an element of a closed set hangs lies in the set. -/
theorem Closed.down {listed : Array Bool} {M : Nat → Bool} (h : Closed ops listed c M) (hd : Down ops listed) {i j : Nat} (hdep : Dep ops i j) (hj : M j = true ∨ j = c) (hl : listed.getD i false = false) (hlj : listed.getD j false = false) : M i = true := by
  induction hdep with
  | one ho he hb hi =>
    subst hi
    rcases h.dep _ _ ho hj hlj _ he hb with h1 | h1
    · rw [hl] at h1; cases h1
    · exact h1
  | @step i k j h1 h2 ih1 ih2 =>
    cases hk : listed.getD k false with
    | true =>
      have := hd.dep h1 hk
      rw [hl] at this; cases this
    | false => exact ih1 (.inl (ih2 hj hk hlj)) hl hk

theorem rest_filter {listed : Array Bool} (hs : listed.size = ops.size) {i : Nat} : rest ops (listed.setIfInBounds i true) = (rest ops listed).filter fun j => j != i := by
  unfold rest
  rw [List.filter_filter]
  apply List.filter_congr
  intro j hj
  have hj' : j < listed.size := by rw [hs]; exact List.mem_range.1 hj
  by_cases hji : j = i
  · subst hji; simp [hj']
  · simp [hji, Array.getElem?_setIfInBounds_ne (Ne.symm hji)]

theorem rest_nil (ok : CanonOk P ops c) {listed : Array Bool} (hd : Down ops listed) (hn : Region.ready .any ops listed = []) : rest ops listed = [] := by
  cases hr : rest ops listed with
  | nil => rfl
  | cons i l =>
    exfalso
    have hi : i ∈ rest ops listed := by rw [hr]; exact List.mem_cons_self ..
    obtain ⟨hi1, hi2⟩ := (mem_rest hd.size).1 hi
    have hsome : ops[i]? = some ops[i] := Array.getElem?_eq_getElem hi1
    have hmem : i ∈ Region.ready .any ops listed := by
      refine mem_ready.2 ⟨?_, ops[i], hsome, fun e he hb => ?_⟩
      · have : i < listed.size := by rw [hd.size]; exact hi1
        simp [this] at hi2 ⊢; exact hi2
      · have hlt := ok.back i _ hsome e he hb
        cases hle : listed.getD e.on false with
        | true => rfl
        | false =>
          have hm : e.on ∈ rest ops listed := (mem_rest hd.size).2 ⟨by omega, hle⟩
          rw [hr] at hm
          have hs := rest_sorted (ops := ops) listed
          rw [hr, List.pairwise_cons] at hs
          rcases List.mem_cons.1 hm with e' | hm
          · omega
          · have := hs.1 _ hm; omega
    rw [hn] at hmem; cases hmem

theorem any_of_cuts (ok : CallOk P ops c) {Q : Exit → Act → World → Prop} (hR : ∀ a w, R a w → ∀ (j : Nat) o, ops[j]? = some o → sideIf ops o a) (hQ : ∀ a w, R a w → Q .normal a w) :
    ∀ (fuel : Nat) (listed : Array Bool), Down ops listed → listed.getD c false = false → (rest ops listed).length = fuel → ∀ (a : Act) (w : World),
      (∀ M, Closed ops listed c M → wpOps P ops (OnlyNormal R) (cutL M c (rest ops listed)) a w) → wpAny P .any ops Q fuel listed a w
  | 0, listed, hd, hc, hl, a, w, h => by
    have hr : rest ops listed = [] := List.eq_nil_of_length_eq_zero hl
    have : c ∈ rest ops listed := (mem_rest hd.size).2 ⟨ok.lt, hc⟩
    rw [hr] at this; cases this
  | fuel + 1, listed, hd, hc, hl, a, w, h => by
    have hcm : c ∈ rest ops listed := (mem_rest hd.size).2 ⟨ok.lt, hc⟩
    have hend : Region.ready .any ops listed = [] → Q .normal a w := by
      intro hn
      have := rest_nil ok.ok hd hn
      rw [this] at hcm; cases hcm
    refine ⟨hend, fun i hi => ?_⟩
    obtain ⟨h1, oi, hoi, hall0⟩ := mem_ready.1 hi
    have hall : ∀ e ∈ oi.after, Region.binds .any e = true → listed.getD e.on false = true := hall0
    have hilt := (Array.getElem?_eq_some_iff.1 hoi).1
    have him : i ∈ rest ops listed := by
      unfold rest; rw [List.mem_filter, List.mem_range]; exact ⟨hilt, by rw [h1]; rfl⟩
    have hil : listed.getD i false = false := ((mem_rest hd.size).1 him).2
    obtain ⟨pre, post, e1, e2⟩ := rest_set hd.size him
    have hsorted := rest_sorted (ops := ops) listed
    have hd' := down_set hd hoi hall
    have hsz : i < listed.size := by rw [hd.size]; exact hilt
    have hlen : (rest ops (listed.setIfInBounds i true)).length = fuel := by
      rw [e2]; rw [e1] at hl
      simp only [List.length_append, List.length_cons] at hl ⊢
      omega
    have hready : ∀ k, Dep ops k i → listed.getD k false = true := fun k hk => hd.ready hk hi
    by_cases hic : i = c
    · subst hic
      have hM := h (fun _ => false) ⟨rfl, fun j o ho hj hlj e he hb => by
        rcases hj with hj | rfl
        · cases hj
        · rw [hoi] at ho; cases ho
          exact .inl (hall e he hb)⟩
      have hcut : cutL (fun _ => false) i (rest ops listed) = i :: rest ops (listed.setIfInBounds i true) := by
        unfold cutL
        rw [rest_filter hd.size]
        have f1 : (rest ops listed).filter (fun _ => false) = [] := by simp
        rw [f1, List.nil_append]
        simp only [Bool.not_false, Bool.true_and]
      rw [hcut, wpOps_cons] at hM
      refine wpOp_mono (fun a w h3 => ?_) (wpOp_weaken hM)
      exact any_of_text ok.ok hR hQ fuel _ hd' (fun hm => by
        have := ((mem_rest hd'.size).1 hm).2
        rw [getD_set hsz] at this
        simp at this) hlen a w h3
    · have hc' : (listed.setIfInBounds i true).getD c false = false := by
        rw [getD_set hsz, hc]; simp; exact fun e => hic e.symm
      have hcd : ¬ Dep ops c i := fun hdep => by have := hready c hdep; rw [hc] at this; cases this
      -- the set, with i
      have big : ∀ M', Closed ops (listed.setIfInBounds i true) c M' → Closed ops listed c (fun j => M' j || j == i) := by
        intro M' hM'
        refine ⟨by rw [hM'.not]; simp; exact fun e => hic e.symm, fun j o ho hj hlj e he hb => ?_⟩
        by_cases hji : j = i
        · subst hji; rw [hoi] at ho; cases ho
          exact .inl (hall e he hb)
        · have := hM'.dep j o ho (hj.imp (fun h => by simpa [hji] using h) id) (by rw [getD_set hsz, hlj]; simpa using hji) e he hb
          rw [getD_set hsz] at this
          rcases this with h5 | h5
          · simp at h5
            rcases h5 with h5 | h5
            · exact .inl (by simpa using h5)
            · exact .inr (by simp [h5])
          · exact .inr (by simp [h5])
      have hone : ∀ M', Closed ops (listed.setIfInBounds i true) c M' → wpOps P ops (OnlyNormal R) (i :: cutL M' c (rest ops (listed.setIfInBounds i true))) a w := by
        intro M' hM'
        have hB := big M' hM'
        have hL := h _ hB
        have hnd : (rest ops listed).Nodup := List.Pairwise.filter _ List.nodup_range
        rw [e1, List.nodup_append, List.nodup_cons] at hnd
        obtain ⟨_, ⟨hn3, _⟩, hn4⟩ := hnd
        have npre : ∀ x ∈ pre, x ≠ i := fun x hx => hn4 x hx i (List.mem_cons_self ..)
        have npost : ∀ x ∈ post, x ≠ i := fun x hx e => hn3 (e ▸ hx)
        have f1 : (rest ops listed).filter (fun j => M' j || j == i) = pre.filter (fun j => M' j) ++ i :: post.filter (fun j => M' j) := by
          rw [e1, List.filter_append, List.filter_cons]
          simp only [beq_self_eq_true, Bool.or_true, if_true]
          congr 1
          · apply List.filter_congr; intro x hx; simp [npre x hx]
          · congr 1; apply List.filter_congr; intro x hx; simp [npost x hx]
        have f2 : (rest ops listed).filter (fun j => !(M' j || j == i) && j != c) = (pre ++ post).filter (fun j => !M' j && j != c) := by
          rw [e1, List.filter_append, List.filter_cons, List.filter_append]
          simp only [beq_self_eq_true, Bool.or_true, Bool.not_true, Bool.false_and, Bool.false_eq_true, if_false]
          have g1 : pre.filter (fun j => !(M' j || j == i) && j != c) = pre.filter (fun j => !M' j && j != c) := by
            apply List.filter_congr; intro x hx; rw [show (x == i) = false by simpa using npre x hx, Bool.or_false]
          have g2 : post.filter (fun j => !(M' j || j == i) && j != c) = post.filter (fun j => !M' j && j != c) := by
            apply List.filter_congr; intro x hx; rw [show (x == i) = false by simpa using npost x hx, Bool.or_false]
          rw [g1, g2]
        have hL' : wpOps P ops (OnlyNormal R) (pre.filter (fun j => M' j) ++ i :: (post.filter (fun j => M' j) ++ c :: (pre ++ post).filter (fun j => !M' j && j != c))) a w := by
          have e : cutL (fun j => M' j || j == i) c (rest ops listed) = pre.filter (fun j => M' j) ++ i :: (post.filter (fun j => M' j) ++ c :: (pre ++ post).filter (fun j => !M' j && j != c)) := by
            unfold cutL; rw [f1, f2]; simp
          rw [← e]; exact hL
        have hgoal : i :: cutL M' c (rest ops (listed.setIfInBounds i true)) = i :: (pre.filter (fun j => M' j) ++ (post.filter (fun j => M' j) ++ c :: (pre ++ post).filter (fun j => !M' j && j != c))) := by
          unfold cutL; rw [e2, List.filter_append]; simp
        rw [hgoal]
        have inr : ∀ x, x ∈ pre ∨ x ∈ post → x ∈ rest ops listed := fun x hx => by
          rw [e1]; exact hx.elim (List.mem_append_left _) (fun h => List.mem_append_right _ (List.mem_cons_of_mem _ h))
        have unl : ∀ x ∈ rest ops listed, listed.getD x false = false := fun x hx => ((mem_rest hd.size).1 hx).2
        have unl' : ∀ x, (x ∈ pre ∨ x ∈ post) → (listed.setIfInBounds i true).getD x false = false := fun x hx => by
          rw [getD_set hsz, unl x (inr x hx)]
          simp; exact hx.elim (npre x) (npost x)
        have ndi : ∀ x ∈ rest ops listed, ¬ Dep ops x i := fun x hx hdep => by have := hready x hdep; rw [unl x hx] at this; cases this
        rw [e1, List.pairwise_append, List.pairwise_cons] at hsorted
        obtain ⟨hs1, ⟨hs2, hs3⟩, hs4⟩ := hsorted
        have inpost : ∀ x, x ∈ post.filter (fun j => M' j) ++ c :: (pre ++ post).filter (fun j => !M' j && j != c) → x ∈ rest ops listed := by
          intro x hx
          rcases List.mem_append.1 hx with hx | hx
          · exact inr x (.inr (List.mem_filter.1 hx).1)
          rcases List.mem_cons.1 hx with rfl | hx
          · exact hcm
          · exact inr x (List.mem_append.1 (List.mem_filter.1 hx).1)
        refine move hR hoi (ok.ok.ns _ _ hoi) _ (fun j hj => ok.nw hoi (.inr (ndi j (inpost j hj)))) (ok.nw hoi (.inl (Nat.le_refl _))) (pre.filter fun j => M' j) (fun p hp => ?_) (fun p hp q hq op hop hpq => ok.nw hop (.inl hpq)) (List.Pairwise.filter _ hs1) a w hL'
        obtain ⟨hp1, hp2⟩ := List.mem_filter.1 hp
        have hpr := inr p (.inl hp1)
        have hplt : p < i := hs4 p hp1 i (List.mem_cons_self ..)
        have hop : ops[p]? = some (ops[p]'((mem_rest hd.size).1 hpr).1) := Array.getElem?_eq_getElem _
        have hpc : p ≠ c := fun e => by rw [e, hM'.not] at hp2; cases hp2
        have hfr := (ok.ok.free p i _ oi hop hoi hplt hpc hic).resolve_left (ndi p hpr)
        refine ⟨ok.nw hoi (.inr (ndi p hpr)), _, hop, ok.ok.ns _ _ hop, hfr.1, hfr.2, ok.nw hop (.inl (Nat.le_of_lt hplt)), ok.nw hop (.inl (Nat.le_refl _)), fun j hj => ?_⟩
        rcases List.mem_append.1 hj with hj | hj
        · exact ok.nw hop (.inl (Nat.le_of_lt (hs4 p hp1 j (List.mem_cons_of_mem _ (List.mem_filter.1 hj).1))))
        rcases List.mem_cons.1 hj with rfl | hj
        · refine ok.nw hop (.inr fun hdep => ?_)
          have := hM'.down hd' hdep (.inl hp2) hc' (unl' p (.inl hp1))
          rw [hM'.not] at this; cases this
        · obtain ⟨hj1, hj2⟩ := List.mem_filter.1 hj
          refine ok.nw hop (.inr fun hdep => ?_)
          have := hM'.down hd' hdep (.inl hp2) (unl' j (List.mem_append.1 hj1)) (unl' p (.inl hp1))
          rw [this] at hj2; simp at hj2
      have hstar : Closed ops (listed.setIfInBounds i true) c (fun j => @decide (Dep ops j c) (Classical.propDecidable _)) := by
        classical
        refine ⟨?_, fun j o ho hj hlj e he hb => .inr ?_⟩
        · rw [decide_eq_false_iff_not]; intro hdep; have := dep_lt ok.ok hdep; omega
        · rw [decide_eq_true_iff]
          have h1 : Dep ops e.on j := .one ho he hb rfl
          rcases hj with hj | rfl
          · rw [decide_eq_true_iff] at hj
            exact .step h1 hj
          · exact h1
      haveI : Nonempty {M' // Closed ops (listed.setIfInBounds i true) c M'} := ⟨⟨_, hstar⟩⟩
      have hside : sideIf ops oi a := by
        refine side_now hR hoi (fun j hj => ?_) (hone _ hstar)
        rcases List.mem_cons.1 hj with rfl | hj
        · exact ok.nw hoi (.inl (Nat.le_refl _))
        · refine ok.nw hoi (.inr fun hdep => ?_)
          have hjr : j ∈ rest ops listed := by
            have hsub : ∀ x ∈ rest ops (listed.setIfInBounds i true), x ∈ rest ops listed := fun x hx => by
              rw [rest_filter hd.size] at hx; exact (List.mem_filter.1 hx).1
            unfold cutL at hj
            rcases List.mem_append.1 hj with hj | hj
            · exact hsub j (List.mem_filter.1 hj).1
            rcases List.mem_cons.1 hj with rfl | hj
            · exact hcm
            · exact hsub j (List.mem_filter.1 hj).1
          have := hready j hdep
          rw [((mem_rest hd.size).1 hjr).2] at this; cases this
      have hall' := wpOp_all (P := P) (R := R) hoi ((ok.kind i oi hoi hic).resolve_left hcd) (ι := {M' // Closed ops (listed.setIfInBounds i true) c M'}) (K := fun x => wpOps P ops (OnlyNormal R) (cutL x.1 c (rest ops (listed.setIfInBounds i true)))) hside (fun x => by
        have := hone x.1 x.2
        rw [wpOps_cons] at this
        exact this)
      refine wpOp_mono (fun a w h3 => ?_) (wpOp_weaken hall')
      exact any_of_cuts ok hR hQ fuel _ hd' hc' hlen a w (fun M hM => h3 ⟨M, hM⟩)

/-- 'move', the operations that are passed in whatever order. -/
theorem move2 (hR : ∀ a w, R a w → ∀ (j : Nat) o, ops[j]? = some o → sideIf ops o a) {i : Nat} {oi : Oper} (hi : ops[i]? = some oi) (nsi : notSelect oi = true) (post : List Nat)
    (hpost : ∀ j ∈ post, noWrite ops j oi) (hself : noWrite ops i oi) : ∀ (pre : List Nat),
    (∀ p ∈ pre, noWrite ops p oi ∧ ∃ op, ops[p]? = some op ∧ notSelect op = true ∧ op.apart ops oi = true ∧ compat P op oi = true ∧ noWrite ops i op ∧ noWrite ops p op ∧ ∀ j ∈ post, noWrite ops j op) →
    pre.Pairwise (fun p q => ∀ op, ops[p]? = some op → noWrite ops q op) →
    ∀ (a : Act) (w : World), wpOps P ops (OnlyNormal R) (pre ++ i :: post) a w → wpOps P ops (OnlyNormal R) (i :: (pre ++ post)) a w
  | [], _, _, a, w, h => h
  | p :: pre, hp, hs, a, w, h => by
    obtain ⟨hpi, op, hop, nsp, hap, hc, hip, hpp, hpost'⟩ := hp p (List.mem_cons_self ..)
    rw [List.pairwise_cons] at hs
    have hlater : ∀ j ∈ p :: (pre ++ i :: post), noWrite ops j op := by
      intro j hj
      rcases List.mem_cons.1 hj with rfl | hj
      · exact hpp
      rcases List.mem_append.1 hj with hj | hj
      · exact hs.1 j hj op hop
      rcases List.mem_cons.1 hj with rfl | hj
      · exact hip
      · exact hpost' j hj
    have hlateri : ∀ j ∈ p :: (pre ++ i :: post), noWrite ops j oi := by
      intro j hj
      rcases List.mem_cons.1 hj with rfl | hj
      · exact hpi
      rcases List.mem_append.1 hj with hj | hj
      · exact (hp j (List.mem_cons_of_mem _ hj)).1
      rcases List.mem_cons.1 hj with rfl | hj
      · exact hself
      · exact hpost j hj
    rw [List.cons_append] at h
    have sp := side_now hR hop hlater h
    have si := side_now hR hi hlateri h
    rw [wpOps_cons] at h
    have h2 := wpOp_mono (fun a w => move2 hR hi nsi post hpost hself pre (fun q hq => hp q (List.mem_cons_of_mem _ hq)) hs.2 a w) h
    have h3 : wpOp P ops (OnlyNormal R) p (wpOp P ops (OnlyNormal R) i (wpOps P ops (OnlyNormal R) (pre ++ post))) a w := wpOp_mono (fun a w h => by rw [wpOps_cons] at h; exact h) h2
    have h4 := swap hop hi nsp nsi hap hc sp si h3
    rw [wpOps_cons]
    exact wpOp_mono (fun a w h => by rw [List.cons_append, wpOps_cons]; exact h) h4

theorem wpOps_tail {l l' : List Nat} (h : ∀ a w, wpOps P ops (OnlyNormal R) l a w → wpOps P ops (OnlyNormal R) l' a w) : ∀ (F : List Nat) (a : Act) (w : World), wpOps P ops (OnlyNormal R) (F ++ l) a w → wpOps P ops (OnlyNormal R) (F ++ l') a w
  | [], a, w, hl => h a w hl
  | i :: F, a, w, hl => by
    rw [List.cons_append, wpOps_cons] at hl ⊢
    exact wpOp_mono (fun a w hl => wpOps_tail h F a w hl) hl

/-- A set that stands ahead of the call, told without the listing. -/
structure Ahead (ops : Array Oper) (c : Nat) (A : Nat → Bool) : Prop where
  cl : ∀ p j, A p = true → A j = false → ¬ Dep ops j p
  notc : ∀ p, A p = true → ¬ Dep ops c p
  dep : ∀ j, A j = false → ¬ Dep ops j c
  not : A c = false

theorem cut_add (ok : CallOk P ops c) (hR : ∀ a w, R a w → ∀ (j : Nat) o, ops[j]? = some o → sideIf ops o a) {A : Nat → Bool} (hA : Ahead ops c A) {t : Nat} {ot : Oper} (ht : ops[t]? = some ot)
    (hpure : clsOf P ot = .pure) (htc : t ≠ c) (htA : A t = false) (h1 : ∀ j, A j = true → t < j → ¬ Dep ops t j) (h3 : ∀ j, A j = false → j < t → j ≠ c → ¬ Dep ops j t) (hct : ¬ Dep ops c t)
    (a : Act) (w : World) (h : wpOps P ops (OnlyNormal R) (cutL A c (List.range ops.size)) a w) : wpOps P ops (OnlyNormal R) (cutL (fun j => A j || j == t) c (List.range ops.size)) a w := by
  have htl := (Array.getElem?_eq_some_iff.1 ht).1
  have h2 : ¬ Dep ops t c := hA.dep t htA
  obtain ⟨r1, r2, e⟩ := List.append_of_mem (List.mem_range.2 htl)
  have hs := List.pairwise_lt_range (n := ops.size)
  have hb : ∀ x ∈ List.range ops.size, x < ops.size := fun x hx => List.mem_range.1 hx
  rw [e] at hs hb
  rw [List.pairwise_append, List.pairwise_cons] at hs
  obtain ⟨s1, ⟨s2, s3⟩, s4⟩ := hs
  have lt1 : ∀ x ∈ r1, x < t := fun x hx => s4 x hx t (List.mem_cons_self ..)
  have e1 : cutL A c (List.range ops.size) = r1.filter (fun j => A j) ++ ((r2.filter (fun j => A j) ++ c :: r1.filter (fun j => !A j && j != c)) ++ t :: r2.filter (fun j => !A j && j != c)) := by
    unfold cutL
    rw [e, List.filter_append, List.filter_cons, List.filter_append, List.filter_cons]
    have : (t != c) = true := by simpa using htc
    simp [htA, this]
  have e2 : cutL (fun j => A j || j == t) c (List.range ops.size) = r1.filter (fun j => A j) ++ (t :: ((r2.filter (fun j => A j) ++ c :: r1.filter (fun j => !A j && j != c)) ++ r2.filter (fun j => !A j && j != c))) := by
    have g1 : r1.filter (fun j => A j || j == t) = r1.filter (fun j => A j) := by
      apply List.filter_congr; intro x hx; rw [show (x == t) = false by have := lt1 x hx; simp; omega, Bool.or_false]
    have g2 : r2.filter (fun j => A j || j == t) = r2.filter (fun j => A j) := by
      apply List.filter_congr; intro x hx; rw [show (x == t) = false by have := s2 x hx; simp; omega, Bool.or_false]
    have g3 : r1.filter (fun j => !(A j || j == t) && j != c) = r1.filter (fun j => !A j && j != c) := by
      apply List.filter_congr; intro x hx; rw [show (x == t) = false by have := lt1 x hx; simp; omega, Bool.or_false]
    have g4 : r2.filter (fun j => !(A j || j == t) && j != c) = r2.filter (fun j => !A j && j != c) := by
      apply List.filter_congr; intro x hx; rw [show (x == t) = false by have := s2 x hx; simp; omega, Bool.or_false]
    unfold cutL
    rw [e, List.filter_append, List.filter_cons, List.filter_append, List.filter_cons, g1, g2, g3, g4]
    simp
  rw [e1] at h
  rw [e2]
  refine wpOps_tail (fun a w h => ?_) _ a w h
  have some_of : ∀ x, x ∈ r1 ∨ x ∈ r2 → ∃ o, ops[x]? = some o := fun x hx => ⟨_, Array.getElem?_eq_getElem (hb x (hx.elim (List.mem_append_left _) (fun h => List.mem_append_right _ (List.mem_cons_of_mem _ h))))⟩
  have hcs : ∃ o, ops[c]? = some o := ⟨_, Array.getElem?_eq_getElem ok.lt⟩
  have inF : ∀ x, x ∈ r2.filter (fun j => A j) → x ∈ r2 ∧ A x = true := fun x hx => List.mem_filter.1 hx
  have inS1 : ∀ x, x ∈ r1.filter (fun j => !A j && j != c) → x ∈ r1 ∧ A x = false ∧ x ≠ c := fun x hx => by
    obtain ⟨h1, h2⟩ := List.mem_filter.1 hx; simp at h2; exact ⟨h1, h2.1, h2.2⟩
  have inS2 : ∀ x, x ∈ r2.filter (fun j => !A j && j != c) → x ∈ r2 ∧ A x = false ∧ x ≠ c := fun x hx => by
    obtain ⟨h1, h2⟩ := List.mem_filter.1 hx; simp at h2; exact ⟨h1, h2.1, h2.2⟩
  refine move2 hR ht (ok.ok.ns _ _ ht) _ (fun j hj => ok.nw ht (.inl (Nat.le_of_lt (s2 j (inS2 j hj).1)))) (ok.nw ht (.inl (Nat.le_refl _))) _ (fun p hp => ?_) ?_ a w h
  · have hcomp : ∀ op, compat P op ot = true := fun op => by unfold compat; rw [hpure]; simp
    rcases List.mem_append.1 hp with hp | hp
    · obtain ⟨hp1, hp2⟩ := inF p hp
      have hlt := s2 p hp1
      obtain ⟨op, hop⟩ := some_of p (.inr hp1)
      have hpc : p ≠ c := fun e => by rw [e, hA.not] at hp2; cases hp2
      refine ⟨ok.nw ht (.inl (Nat.le_of_lt hlt)), op, hop, ok.ok.ns _ _ hop, (ok.sym t p ot op ht hop hlt htc hpc).resolve_left (h1 p hp2 hlt), hcomp op, ok.nw hop (.inr (h1 p hp2 hlt)), ok.nw hop (.inl (Nat.le_refl _)), fun j hj => ok.nw hop (.inr (hA.cl p j hp2 (inS2 j hj).2.1))⟩
    rcases List.mem_cons.1 hp with rfl | hp
    · obtain ⟨op, hop⟩ := hcs
      have hap := ((ok.apartc t ot op ht hop htc).resolve_left h2).resolve_left hct
      exact ⟨ok.nw ht (.inr hct), op, hop, ok.ok.ns _ _ hop, hap.2, hcomp op, ok.nw hop (.inr h2), ok.nw hop (.inl (Nat.le_refl _)), fun j hj => ok.nw hop (.inr (hA.dep j (inS2 j hj).2.1))⟩
    · obtain ⟨hp1, hp2, hpc⟩ := inS1 p hp
      have hlt := lt1 p hp1
      obtain ⟨op, hop⟩ := some_of p (.inl hp1)
      have hf := (ok.ok.free p t op ot hop ht hlt hpc htc).resolve_left (h3 p hp2 hlt hpc)
      exact ⟨ok.nw ht (.inr (h3 p hp2 hlt hpc)), op, hop, ok.ok.ns _ _ hop, hf.1, hcomp op, ok.nw hop (.inl (Nat.le_of_lt hlt)), ok.nw hop (.inl (Nat.le_refl _)), fun j hj => ok.nw hop (.inl (by have := s2 j (inS2 j hj).1; omega))⟩
  · rw [List.pairwise_append, List.pairwise_cons]
    refine ⟨?_, ⟨fun q hq op hop => ok.nw hop (.inr (hA.dep q (inS1 q hq).2.1)), ?_⟩, fun p hp q hq op hop => ?_⟩
    · exact (List.Pairwise.filter _ s3).imp fun h op hop => ok.nw hop (.inl (Nat.le_of_lt h))
    · exact (List.Pairwise.filter _ s1).imp fun h op hop => ok.nw hop (.inl (Nat.le_of_lt h))
    · rcases List.mem_cons.1 hq with rfl | hq
      · exact ok.nw hop (.inr (hA.notc p (inF p hp).2))
      · exact ok.nw hop (.inr (hA.cl p q (inF p hp).2 (inS1 q hq).2.1))

/-- The operations that must come ahead of the call and of those of N. -/
def m0 (bits : List Nat) (c : Nat) (N : List Nat) (j : Nat) : Bool := Nat.testBit (bits.getD c 0) j || N.any fun x => x == j || Nat.testBit (bits.getD x 0) j
def subs : List Nat → List (List Nat)
  | [] => [[]]
  | x :: xs => subs xs ++ (subs xs).map (x :: ·)
theorem mem_subs (M : Nat → Bool) : ∀ l : List Nat, l.filter (fun j => M j) ∈ subs l
  | [] => by simp [subs]
  | x :: xs => by
    have := mem_subs M xs
    unfold subs
    rw [List.filter_cons]
    split
    · exact List.mem_append_right _ (List.mem_map_of_mem this)
    · exact List.mem_append_left _ this

def closedB (l : List Oper) (c : Nat) (A : Nat → Bool) : Bool :=
  !A c && (List.range l.length).all fun p => !(A p || p == c) || match l.toArray[p]? with
    | none => true
    | some o => o.after.toList.all fun e => !Region.binds .any e || A e.on

/-- One call of a function (operation c), and FN: the operations that read or make memory and do not hang on the call. -/
def callB (P : Program) (l : List Oper) (c : Nat) (FN : List Nat) : Bool :=
  let ops := l.toArray
  let bits := bitsAll l []
  canonC P l c && decide (c < l.length) &&
  ((List.range l.length).all fun j => j == c || match ops[j]?, ops[c]? with
    | some oj, some oc => (Nat.testBit (bits.getD c 0) j || Nat.testBit (bits.getD j 0) c || (oj.apart ops oc && oc.apart ops oj)) &&
      (Nat.testBit (bits.getD j 0) c || clsOf P oj != .heavy) && (Nat.testBit (bits.getD j 0) c || clsOf P oj == .pure || FN.contains j)
    | _, _ => true) &&
  ((List.range l.length).all fun i => (List.range i).all fun p => p == c || i == c || match ops[p]?, ops[i]? with
    | some op, some oi => Nat.testBit (bits.getD i 0) p || oi.apart ops op
    | _, _ => true) &&
  (subs FN).all fun N => closedB l c (m0 bits c N)

theorem dep_bits {l : List Oper} {k i : Nat} (h : Nat.testBit ((bitsAll l []).getD k 0) i = true) : Dep l.toArray i k :=
  bitsAll_spec (ops := l.toArray) l [] (fun k => by simp) (fun k i h => by simp at h) k i h

theorem closedB_spec {l : List Oper} {c : Nat} {A : Nat → Bool} (hc : c < l.length) (h : closedB l c A = true) : A c = false ∧ ∀ i j, Dep l.toArray i j → (A j = true ∨ j = c) → A i = true := by
  unfold closedB at h
  rw [Bool.and_eq_true] at h
  refine ⟨by simpa using h.1, fun i j hd => ?_⟩
  have one : ∀ (j : Nat) o, l.toArray[j]? = some o → (A j = true ∨ j = c) → ∀ e ∈ o.after, Region.binds .any e = true → A e.on = true := by
    intro j o ho hj e he hb
    have hlt : j < l.length := by have := (Array.getElem?_eq_some_iff.1 ho).1; simpa using this
    have := List.all_eq_true.1 h.2 j (List.mem_range.2 hlt)
    rw [ho] at this
    have hj' : (A j || j == c) = true := by rcases hj with hj | hj <;> simp [hj]
    simp only [hj', Bool.not_true, Bool.false_or] at this
    have := List.all_eq_true.1 this e (by simpa using he)
    simpa [hb] using this
  induction hd with
  | one ho he hb hi => intro hj; subst hi; exact one _ _ ho hj _ he hb
  | step h1 h2 ih1 ih2 => intro hj; exact ih1 (.inl (ih2 hj))

theorem callB_ok {l : List Oper} {FN : List Nat} (h : callB P l c FN = true) : CallOk P l.toArray c ∧ (∀ j oj, l.toArray[j]? = some oj → j ≠ c → Dep l.toArray c j ∨ clsOf P oj = .pure ∨ j ∈ FN) ∧ ∀ N ∈ subs FN, closedB l c (m0 (bitsAll l []) c N) = true := by
  unfold callB at h
  simp only [Bool.and_eq_true] at h
  obtain ⟨⟨⟨⟨h1, h2⟩, h3⟩, h4⟩, h5⟩ := h
  have hc : c < l.length := by simpa using h2
  have lt : ∀ (i : Nat) o, l.toArray[i]? = some o → i < l.length := fun i o ho => by have := (Array.getElem?_eq_some_iff.1 ho).1; simpa using this
  obtain ⟨oc, hoc⟩ : ∃ o, l.toArray[c]? = some o := ⟨l.toArray[c]'(by simpa using hc), Array.getElem?_eq_getElem (by simpa using hc)⟩
  have key : ∀ j oj, l.toArray[j]? = some oj → j ≠ c → (Dep l.toArray j c ∨ Dep l.toArray c j ∨ (oj.apart l.toArray oc = true ∧ oc.apart l.toArray oj = true)) ∧ (Dep l.toArray c j ∨ clsOf P oj ≠ .heavy) ∧ (Dep l.toArray c j ∨ clsOf P oj = .pure ∨ j ∈ FN) := by
    intro j oj hoj hjc
    have := List.all_eq_true.1 h3 j (List.mem_range.2 (lt j oj hoj))
    simp only [hoj, hoc, Bool.or_eq_true, Bool.and_eq_true] at this
    rcases this with hx | ⟨⟨hx, hy⟩, hz⟩
    · exact absurd (by simpa using hx) hjc
    · refine ⟨?_, ?_, ?_⟩
      · rcases hx with (hx | hx) | hx
        · exact .inl (dep_bits hx)
        · exact .inr (.inl (dep_bits hx))
        · exact .inr (.inr hx)
      · rcases hy with hy | hy
        · exact .inl (dep_bits hy)
        · exact .inr (by simpa using hy)
      · rcases hz with (hz | hz) | hz
        · exact .inl (dep_bits hz)
        · exact .inr (.inl (by simpa using hz))
        · exact .inr (.inr (by simpa using hz))
  refine ⟨⟨canonB_ok h1, by simpa using hc, fun j oj oc' hoj hoc' hjc => ?_, fun j oj hoj hjc => (key j oj hoj hjc).2.1, fun p i op oi hop hoi hlt hpc hic => ?_⟩, fun j oj hoj hjc => (key j oj hoj hjc).2.2, fun N hN => List.all_eq_true.1 h5 N hN⟩
  · rw [hoc] at hoc'; cases hoc'
    exact (key j oj hoj hjc).1
  · have := List.all_eq_true.1 (List.all_eq_true.1 h4 i (List.mem_range.2 (lt i oi hoi))) p (List.mem_range.2 hlt)
    simp only [hop, hoi, Bool.or_eq_true] at this
    rcases this with (hx | hx) | hx | hx
    · exact absurd (by simpa using hx) hpc
    · exact absurd (by simpa using hx) hic
    · exact .inl (dep_bits hx)
    · exact .inr hx

theorem cuts_enough {l : List Oper} {FN : List Nat} (hcall : callB P l c FN = true) (hR : ∀ a w, R a w → ∀ (j : Nat) o, l.toArray[j]? = some o → sideIf l.toArray o a) {a : Act} {w : World}
    (h : ∀ N ∈ subs FN, wpOps P l.toArray (OnlyNormal R) (cutL (m0 (bitsAll l []) c N) c (List.range l.toArray.size)) a w) {listed : Array Bool} (hno : ∀ j, listed.getD j false = false) (hd : Down l.toArray listed)
    {M : Nat → Bool} (hM : Closed l.toArray listed c M) : wpOps P l.toArray (OnlyNormal R) (cutL M c (List.range l.toArray.size)) a w := by
  obtain ⟨ok, hFN, hcl⟩ := callB_ok hcall
  have hclt : c < l.length := by simpa using ok.lt
  obtain ⟨n1, n2⟩ := closedB_spec hclt (hcl _ (mem_subs M FN))
  have h0 := h _ (mem_subs M FN)
  have hmem : ∀ x, x ∈ FN.filter (fun j => M j) → M x = true := fun x hx => (List.mem_filter.1 hx).2
  have hfn : ∀ t, t ∈ FN → M t = true → m0 (bitsAll l []) c (FN.filter fun j => M j) t = true := fun t ht hMt => by
    unfold m0
    rw [Bool.or_eq_true]
    refine .inr (List.any_eq_true.2 ⟨t, List.mem_filter.2 ⟨ht, hMt⟩, by simp⟩)
  have hsub : ∀ j, m0 (bitsAll l []) c (FN.filter fun j => M j) j = true → M j = true := by
    intro j hj
    unfold m0 at hj
    rw [Bool.or_eq_true] at hj
    rcases hj with hj | hj
    · exact hM.down hd (dep_bits hj) (.inr rfl) (hno j) (hno c)
    · obtain ⟨x, hx, hj⟩ := List.any_eq_true.1 hj
      rw [Bool.or_eq_true] at hj
      rcases hj with hj | hj
      · have : x = j := by simpa using hj
        exact this ▸ hmem x hx
      · exact hM.down hd (dep_bits hj) (.inl (hmem x hx)) (hno j) (hno x)
  generalize m0 (bitsAll l []) c (FN.filter fun j => M j) = A0 at *
  have hMd : ∀ i j, Dep l.toArray i j → M j = true → M i = true := fun i j hdep hj => hM.down hd hdep (.inl hj) (hno i) (hno j)
  have step : ∀ t, t ≤ l.toArray.size → wpOps P l.toArray (OnlyNormal R) (cutL (fun j => A0 j || (M j && decide (j < t))) c (List.range l.toArray.size)) a w := by
    intro t
    induction t with
    | zero =>
      intro _
      have : (fun j => A0 j || (M j && decide (j < 0))) = A0 := by funext j; simp
      rw [this]; exact h0
    | succ t ih =>
      intro ht
      have iht := ih (by omega)
      by_cases hadd : M t = true ∧ A0 t = false
      · obtain ⟨hMt, hA0t⟩ := hadd
        have hot : l.toArray[t]? = some (l.toArray[t]'(by omega)) := Array.getElem?_eq_getElem _
        have htc : t ≠ c := fun e => by rw [e, hM.not] at hMt; cases hMt
        have hct : ¬ Dep l.toArray c t := fun hdep => by have := hMd c t hdep hMt; rw [hM.not] at this; cases this
        have hpure : clsOf P (l.toArray[t]'(by omega)) = .pure := by
          rcases hFN t _ hot htc with h1 | h1 | h1
          · exact absurd h1 hct
          · exact h1
          · have := hfn t h1 hMt; rw [hA0t] at this; cases this
        have hA : Ahead l.toArray c (fun j => A0 j || (M j && decide (j < t))) := by
          refine ⟨fun p j hp hj hdep => ?_, fun p hp hdep => ?_, fun j hj hdep => ?_, ?_⟩
          · simp only [Bool.or_eq_true, Bool.and_eq_true, decide_eq_true_eq, Bool.or_eq_false_iff, Bool.and_eq_false_iff, decide_eq_false_iff_not] at hp hj
            rcases hp with hp | ⟨hp1, hp2⟩
            · have := n2 j p hdep (.inl hp); rw [hj.1] at this; cases this
            · have h1 := hMd j p hdep hp1
              have h2 := dep_lt ok.ok hdep
              rcases hj.2 with h3 | h3
              · rw [h1] at h3; cases h3
              · omega
          · have hMp : M p = true := by
              simp only [Bool.or_eq_true, Bool.and_eq_true] at hp
              rcases hp with hp | hp
              · exact hsub p hp
              · exact hp.1
            have := hMd c p hdep hMp; rw [hM.not] at this; cases this
          · have h1 := n2 j c hdep (.inr rfl)
            simp only [h1, Bool.true_or] at hj; cases hj
          · rw [n1, hM.not]; simp
        have := cut_add ok hR hA hot hpure htc (by rw [hA0t]; simp) (fun j hj hlt hdep => ?_) (fun j hj hlt hjc hdep => ?_) hct a w iht
        · have e : (fun j => A0 j || (M j && decide (j < t + 1))) = (fun j => (A0 j || (M j && decide (j < t))) || j == t) := by
            funext j
            by_cases hjt : j = t
            · subst hjt; simp [hMt]
            · have : decide (j < t + 1) = decide (j < t) := by rw [decide_eq_decide]; omega
              rw [this]; simp [hjt]
          rw [e]; exact this
        · simp only [Bool.or_eq_true, Bool.and_eq_true, decide_eq_true_eq] at hj
          rcases hj with hj | ⟨_, hj⟩
          · have := n2 t j hdep (.inl hj); rw [hA0t] at this; cases this
          · omega
        · have h1 := hMd j t hdep hMt
          simp only [Bool.or_eq_false_iff, Bool.and_eq_false_iff, decide_eq_false_iff_not] at hj
          rcases hj.2 with h3 | h3
          · rw [h1] at h3; cases h3
          · omega
      · have e : (fun j => A0 j || (M j && decide (j < t + 1))) = (fun j => A0 j || (M j && decide (j < t))) := by
          funext j
          by_cases hjt : j = t
          · subst hjt
            cases hMj : M j with
            | false => simp
            | true =>
              have : A0 j = true := by
                cases hA : A0 j with
                | true => rfl
                | false => exact absurd ⟨hMj, hA⟩ hadd
              simp [this]
          · have : decide (j < t + 1) = decide (j < t) := by rw [decide_eq_decide]; omega
            rw [this]
        rw [e]; exact iht
  have hend := step l.toArray.size (Nat.le_refl _)
  have e : cutL (fun j => A0 j || (M j && decide (j < l.toArray.size))) c (List.range l.toArray.size) = cutL M c (List.range l.toArray.size) := by
    have hx : ∀ x ∈ List.range l.toArray.size, (A0 x || (M x && decide (x < l.toArray.size))) = M x := by
      intro x hx
      have hlt := List.mem_range.1 hx
      cases hMx : M x with
      | true => rw [decide_eq_true hlt]; simp
      | false =>
        cases hA : A0 x with
        | false => simp
        | true => have := hsub x hA; rw [hMx] at this; cases this
    have f1 : (List.range l.toArray.size).filter (fun j => A0 j || (M j && decide (j < l.toArray.size))) = (List.range l.toArray.size).filter (fun j => M j) := List.filter_congr hx
    have f2 : (List.range l.toArray.size).filter (fun j => !(A0 j || (M j && decide (j < l.toArray.size))) && j != c) = (List.range l.toArray.size).filter (fun j => !M j && j != c) :=
      List.filter_congr (fun x hx' => by rw [hx x hx'])
    unfold cutL
    rw [f1, f2]
  rw [e] at hend
  exact hend

theorem wpOps_list {Q : Exit → Act → World → Prop} : ∀ (js : List Nat), wpOps P ops Q js = wpList P ops Q (js.filterMap fun j => ops[j]?)
  | [] => by funext a w; simp [wpOps, wpList]
  | j :: js => by
    funext a w
    cases h : ops[j]? with
    | none => simp only [wpOps, h, List.filterMap_cons]; rw [wpOps_list js]
    | some o => simp only [wpOps, h, List.filterMap_cons, wpList, wpOps_list js]

/-- The orders in which a region with one call (operation c) is to be walked. -/
def ordersOf (l : List Oper) (c : Nat) (FN : List Nat) : List (List Nat) := (subs FN).map fun N => cutL (m0 (bitsAll l []) c N) c (List.range l.length)
def AllL (f : List Nat → Prop) : List (List Nat) → Prop
  | [] => True
  | x :: xs => f x ∧ AllL f xs
theorem AllL.mem {f : List Nat → Prop} : ∀ {l : List (List Nat)}, AllL f l → ∀ x ∈ l, f x
  | [], _, x, hx => by cases hx
  | y :: l, h, x, hx => by
    rcases List.mem_cons.1 hx with rfl | hx
    · exact h.1
    · exact h.2.mem x hx

/-- The order written out, with no 'match' (whose arms bear marks that the walk stumbles over): 'simp only [fm_cons, List.filterMap_nil, List.getElem?_toArray, List.getElem?_cons_zero, List.getElem?_cons_succ, Option.elim_some]'. -/
theorem fm_cons {α β : Type} (f : α → Option β) (a : α) (l : List α) : (a :: l).filterMap f = (f a).elim (l.filterMap f) (fun b => b :: l.filterMap f) := by
  cases h : f a <;> simp [h, Option.elim]
/-- A REGION THAT DRAWS ITS ORDER AND HOLDS ONE CALL: walked once for each place that the draw can give the call. 'Ls': the orders, written out (each once). -/
theorem wp_canon_call {l : List Oper} {Q : Exit → Act → World → Prop} {a : Act} {w : World} {id : Nat} (c : Nat) (FN : List Nat) (Ls : List (List Nat)) (hm : P.follows .mixedOrders = true) (hc : callB P l c FN = true)
    (hL : ((ordersOf l c FN).all fun x => Ls.contains x) = true)
    (h : AllL (fun js => wpList P l.toArray (OnlyNormal fun a w => sideB l a = true ∧ Q .normal a w) (js.filterMap fun j => l.toArray[j]?) a w.drew) Ls) : (Code.region id l.toArray true).wp P Q a w := by
  obtain ⟨ok, _, _⟩ := callB_ok hc
  have hR : ∀ a w, (sideB l a = true ∧ Q .normal a w) → ∀ (j : Nat) o, l.toArray[j]? = some o → sideIf l.toArray o a := by
    intro a w hr j o ho hw
    have h1 := List.all_eq_true.1 hr.1 o (by
      obtain ⟨hlt, e⟩ := (Array.getElem?_eq_some_iff.1 ho)
      subst e
      simp)
    rw [hw] at h1
    simpa using h1
  have hno : ∀ j, (Array.replicate l.toArray.size false).getD j false = false := by
    intro j
    simp only [Array.getD_eq_getD_getElem?, Array.getElem?_replicate]
    split <;> rfl
  have hd : Down l.toArray (Array.replicate l.toArray.size false) := ⟨by simp, fun j o ho hl => by rw [hno] at hl; cases hl⟩
  refine wp_region_any hm ?_
  have hdrew : ({ w with drawn := w.drawn + 1 } : World) = w.drew := rfl
  rw [hdrew]
  have hrest : rest l.toArray (Array.replicate l.toArray.size false) = List.range l.toArray.size := by
    unfold rest
    rw [List.filter_eq_self.2]
    intro i hi
    have := List.mem_range.1 hi
    simp at this
    simp [this]
  refine any_of_cuts (R := fun a w => sideB l a = true ∧ Q .normal a w) ok hR (fun a w h => h.2) _ _ hd (hno c) ?_ a _ (fun M hM => ?_)
  · rw [hrest]; simp
  · rw [hrest]
    refine cuts_enough hc hR (fun N hN => ?_) hno hd hM
    have hin : cutL (m0 (bitsAll l []) c N) c (List.range l.length) ∈ ordersOf l c FN := List.mem_map_of_mem hN
    have hin2 : cutL (m0 (bitsAll l []) c N) c (List.range l.length) ∈ Ls := by
      have := List.all_eq_true.1 hL _ hin
      simpa using this
    have := h.mem _ hin2
    rw [← wpOps_list] at this
    simpa using this
end
end Vl
/- A region that draws its order and holds a call that panics. -/
namespace Vl
open Go
set_option linter.unusedVariables false
section
variable {P : Program} {ops : Array Oper} {c : Nat} {R : Act → World → Prop}

theorem any_of_panic (ok : CallOk P ops c) {Q : Exit → Act → World → Prop} (hR : ∀ a w, R a w → ∀ (j : Nat) o, ops[j]? = some o → sideIf ops o a) (hQ : ∀ a w, R a w → wpOp P ops Q c (fun _ _ => False) a w) :
    ∀ (fuel : Nat) (listed : Array Bool), Down ops listed → listed.getD c false = false → (rest ops listed).length = fuel → ∀ (a : Act) (w : World),
      (∀ M, Closed ops listed c M → wpOps P ops (OnlyNormal R) ((rest ops listed).filter fun j => M j) a w) → wpAny P .any ops Q fuel listed a w
  | 0, listed, hd, hc, hl, a, w, h => by
    have hr : rest ops listed = [] := List.eq_nil_of_length_eq_zero hl
    have : c ∈ rest ops listed := (mem_rest hd.size).2 ⟨ok.lt, hc⟩
    rw [hr] at this; cases this
  | fuel + 1, listed, hd, hc, hl, a, w, h => by
    have hcm : c ∈ rest ops listed := (mem_rest hd.size).2 ⟨ok.lt, hc⟩
    have hend : Region.ready .any ops listed = [] → Q .normal a w := by
      intro hn
      have := rest_nil ok.ok hd hn
      rw [this] at hcm; cases hcm
    refine ⟨hend, fun i hi => ?_⟩
    obtain ⟨h1, oi, hoi, hall0⟩ := mem_ready.1 hi
    have hall : ∀ e ∈ oi.after, Region.binds .any e = true → listed.getD e.on false = true := hall0
    have hilt := (Array.getElem?_eq_some_iff.1 hoi).1
    have him : i ∈ rest ops listed := by
      unfold rest; rw [List.mem_filter, List.mem_range]; exact ⟨hilt, by rw [h1]; rfl⟩
    have hil : listed.getD i false = false := ((mem_rest hd.size).1 him).2
    obtain ⟨pre, post, e1, e2⟩ := rest_set hd.size him
    have hsorted := rest_sorted (ops := ops) listed
    have hd' := down_set hd hoi hall
    have hsz : i < listed.size := by rw [hd.size]; exact hilt
    have hlen : (rest ops (listed.setIfInBounds i true)).length = fuel := by
      rw [e2]; rw [e1] at hl
      simp only [List.length_append, List.length_cons] at hl ⊢
      omega
    have hready : ∀ k, Dep ops k i → listed.getD k false = true := fun k hk => hd.ready hk hi
    by_cases hic : i = c
    · subst hic
      have hM := h (fun _ => false) ⟨rfl, fun j o ho hj hlj e he hb => by
        rcases hj with hj | rfl
        · cases hj
        · rw [hoi] at ho; cases ho
          exact .inl (hall e he hb)⟩
      have f1 : (rest ops listed).filter (fun _ => false) = [] := by simp
      rw [f1] at hM
      exact wpOp_mono (fun a w h3 => h3.elim) (hQ a w hM)
    · have hc' : (listed.setIfInBounds i true).getD c false = false := by
        rw [getD_set hsz, hc]; simp; exact fun e => hic e.symm
      have hcd : ¬ Dep ops c i := fun hdep => by have := hready c hdep; rw [hc] at this; cases this
      -- the set, with i
      have big : ∀ M', Closed ops (listed.setIfInBounds i true) c M' → Closed ops listed c (fun j => M' j || j == i) := by
        intro M' hM'
        refine ⟨by rw [hM'.not]; simp; exact fun e => hic e.symm, fun j o ho hj hlj e he hb => ?_⟩
        by_cases hji : j = i
        · subst hji; rw [hoi] at ho; cases ho
          exact .inl (hall e he hb)
        · have := hM'.dep j o ho (hj.imp (fun h => by simpa [hji] using h) id) (by rw [getD_set hsz, hlj]; simpa using hji) e he hb
          rw [getD_set hsz] at this
          rcases this with h5 | h5
          · simp at h5
            rcases h5 with h5 | h5
            · exact .inl (by simpa using h5)
            · exact .inr (by simp [h5])
          · exact .inr (by simp [h5])
      have hone : ∀ M', Closed ops (listed.setIfInBounds i true) c M' → wpOps P ops (OnlyNormal R) (i :: (rest ops (listed.setIfInBounds i true)).filter fun j => M' j) a w := by
        intro M' hM'
        have hB := big M' hM'
        have hL := h _ hB
        have hnd : (rest ops listed).Nodup := List.Pairwise.filter _ List.nodup_range
        rw [e1, List.nodup_append, List.nodup_cons] at hnd
        obtain ⟨_, ⟨hn3, _⟩, hn4⟩ := hnd
        have npre : ∀ x ∈ pre, x ≠ i := fun x hx => hn4 x hx i (List.mem_cons_self ..)
        have npost : ∀ x ∈ post, x ≠ i := fun x hx e => hn3 (e ▸ hx)
        have f1 : (rest ops listed).filter (fun j => M' j || j == i) = pre.filter (fun j => M' j) ++ i :: post.filter (fun j => M' j) := by
          rw [e1, List.filter_append, List.filter_cons]
          simp only [beq_self_eq_true, Bool.or_true, if_true]
          congr 1
          · apply List.filter_congr; intro x hx; simp [npre x hx]
          · congr 1; apply List.filter_congr; intro x hx; simp [npost x hx]
        have hL' : wpOps P ops (OnlyNormal R) (pre.filter (fun j => M' j) ++ i :: (post.filter (fun j => M' j) ++ [])) a w := by
          rw [List.append_nil, ← f1]; exact hL
        have hgoal : i :: (rest ops (listed.setIfInBounds i true)).filter (fun j => M' j) = i :: (pre.filter (fun j => M' j) ++ (post.filter (fun j => M' j) ++ [])) := by
          rw [e2, List.filter_append, List.append_nil]
        rw [hgoal]
        have inr : ∀ x, x ∈ pre ∨ x ∈ post → x ∈ rest ops listed := fun x hx => by
          rw [e1]; exact hx.elim (List.mem_append_left _) (fun h => List.mem_append_right _ (List.mem_cons_of_mem _ h))
        have unl : ∀ x ∈ rest ops listed, listed.getD x false = false := fun x hx => ((mem_rest hd.size).1 hx).2
        have unl' : ∀ x, (x ∈ pre ∨ x ∈ post) → (listed.setIfInBounds i true).getD x false = false := fun x hx => by
          rw [getD_set hsz, unl x (inr x hx)]
          simp; exact hx.elim (npre x) (npost x)
        have ndi : ∀ x ∈ rest ops listed, ¬ Dep ops x i := fun x hx hdep => by have := hready x hdep; rw [unl x hx] at this; cases this
        rw [e1, List.pairwise_append, List.pairwise_cons] at hsorted
        obtain ⟨hs1, ⟨hs2, hs3⟩, hs4⟩ := hsorted
        have inpost : ∀ x, x ∈ post.filter (fun j => M' j) ++ [] → x ∈ rest ops listed := by
          intro x hx
          rw [List.append_nil] at hx
          exact inr x (.inr (List.mem_filter.1 hx).1)
        refine move hR hoi (ok.ok.ns _ _ hoi) _ (fun j hj => ok.nw hoi (.inr (ndi j (inpost j hj)))) (ok.nw hoi (.inl (Nat.le_refl _))) (pre.filter fun j => M' j) (fun p hp => ?_) (fun p hp q hq op hop hpq => ok.nw hop (.inl hpq)) (List.Pairwise.filter _ hs1) a w hL'
        obtain ⟨hp1, hp2⟩ := List.mem_filter.1 hp
        have hpr := inr p (.inl hp1)
        have hplt : p < i := hs4 p hp1 i (List.mem_cons_self ..)
        have hop : ops[p]? = some (ops[p]'((mem_rest hd.size).1 hpr).1) := Array.getElem?_eq_getElem _
        have hpc : p ≠ c := fun e => by rw [e, hM'.not] at hp2; cases hp2
        have hfr := (ok.ok.free p i _ oi hop hoi hplt hpc hic).resolve_left (ndi p hpr)
        refine ⟨ok.nw hoi (.inr (ndi p hpr)), _, hop, ok.ok.ns _ _ hop, hfr.1, hfr.2, ok.nw hop (.inl (Nat.le_of_lt hplt)), ok.nw hop (.inl (Nat.le_refl _)), fun j hj => ?_⟩
        rw [List.append_nil] at hj
        exact ok.nw hop (.inl (Nat.le_of_lt (hs4 p hp1 j (List.mem_cons_of_mem _ (List.mem_filter.1 hj).1))))
      have hstar : Closed ops (listed.setIfInBounds i true) c (fun j => @decide (Dep ops j c) (Classical.propDecidable _)) := by
        classical
        refine ⟨?_, fun j o ho hj hlj e he hb => .inr ?_⟩
        · rw [decide_eq_false_iff_not]; intro hdep; have := dep_lt ok.ok hdep; omega
        · rw [decide_eq_true_iff]
          have h1 : Dep ops e.on j := .one ho he hb rfl
          rcases hj with hj | rfl
          · rw [decide_eq_true_iff] at hj
            exact .step h1 hj
          · exact h1
      haveI : Nonempty {M' // Closed ops (listed.setIfInBounds i true) c M'} := ⟨⟨_, hstar⟩⟩
      have hside : sideIf ops oi a := by
        refine side_now hR hoi (fun j hj => ?_) (hone _ hstar)
        rcases List.mem_cons.1 hj with rfl | hj
        · exact ok.nw hoi (.inl (Nat.le_refl _))
        · refine ok.nw hoi (.inr fun hdep => ?_)
          have hjr : j ∈ rest ops listed := by
            have hsub : ∀ x ∈ rest ops (listed.setIfInBounds i true), x ∈ rest ops listed := fun x hx => by
              rw [rest_filter hd.size] at hx; exact (List.mem_filter.1 hx).1
            exact hsub j (List.mem_filter.1 hj).1
          have := hready j hdep
          rw [((mem_rest hd.size).1 hjr).2] at this; cases this
      have hall' := wpOp_all (P := P) (R := R) hoi ((ok.kind i oi hoi hic).resolve_left hcd) (ι := {M' // Closed ops (listed.setIfInBounds i true) c M'}) (K := fun x => wpOps P ops (OnlyNormal R) ((rest ops (listed.setIfInBounds i true)).filter fun j => x.1 j)) hside (fun x => by
        have := hone x.1 x.2
        rw [wpOps_cons] at this
        exact this)
      refine wpOp_mono (fun a w h3 => ?_) (wpOp_weaken hall')
      exact any_of_panic ok hR hQ fuel _ hd' hc' hlen a w (fun M hM => h3 ⟨M, hM⟩)


/-- What may come ahead of the call. -/
def aheadOf (l : List Oper) (c : Nat) (FN : List Nat) : List (List Nat) := (subs FN).map fun N => (List.range l.length).filter fun j => m0 (bitsAll l []) c N j
def panicB (P : Program) (l : List Oper) (c : Nat) (FN : List Nat) : Bool :=
  callB P l c FN && (List.range l.length).all fun j => j == c || Nat.testBit ((bitsAll l []).getD c 0) j || Nat.testBit ((bitsAll l []).getD j 0) c || FN.contains j
/-- No normal end. -/
def NoNormal (Q : Exit → Act → World → Prop) : Exit → Act → World → Prop
  | .normal, _, _ => False
  | e, a, w => Q e a w

theorem wpOp_out {Q Q' : Exit → Act → World → Prop} (hQ : ∀ e a w, Q e a w → Q' e a w) {i : Nat} {K : Act → World → Prop} {a : Act} {w : World} (h : wpOp P ops Q i K a w) : wpOp P ops Q' i K a w := by
  unfold wpOp at *
  split
  · rename_i ho; simp only [ho] at h; exact h
  · rename_i o ho
    simp only [ho] at h
    split
    · rename_i hw
      simp only [hw, if_true] at h
      rcases h with h | ⟨h1, x, y, h⟩
      · left
        unfold Oper.wp at *
        generalize (execOp a.eval o).run P w = r at *
        cases r with
        | ok n w' =>
          cases n <;> simp only [Oper.upon] at h ⊢ <;> first | exact h | exact hQ _ _ _ h | exact Calls.mono h (fun e w'' he => by cases e <;> first | exact he | exact hQ _ _ _ he | exact ⟨he.1, he.2.1, hQ _ _ _ he.2.2⟩ | exact he.elim fun x hx => hx.elim fun y hy => ⟨x, y, hQ _ _ _ hy⟩)
        | halt x w' => cases x <;> simp only [Oper.upon] at h ⊢ <;> first | exact h | exact hQ _ _ _ h
      · exact .inr ⟨h1, x, y, hQ _ _ _ h⟩
    · rename_i hw
      simp only [hw] at h
      exact h
theorem NoNormal.out {Q : Exit → Act → World → Prop} : ∀ e a w, NoNormal Q e a w → Q e a w := fun e a w h => by cases e <;> first | exact h | exact h.elim

/-- A REGION THAT DRAWS ITS ORDER AND HOLDS ONE CALL, WHICH PANICS: walked once for each set of operations that the draw can lay ahead of it. -/
theorem wp_canon_panic {l : List Oper} {Q : Exit → Act → World → Prop} {a : Act} {w : World} {id : Nat} (c : Nat) (FN : List Nat) (Ls : List (List Nat)) (hm : P.follows .mixedOrders = true) (hc : panicB P l c FN = true)
    (hL : ((aheadOf l c FN).all fun x => Ls.contains x) = true)
    (h : AllL (fun js => wpList P l.toArray (OnlyNormal fun a w => sideB l a = true ∧ wpList P l.toArray (NoNormal Q) ([c].filterMap fun j => l.toArray[j]?) a w) (js.filterMap fun j => l.toArray[j]?) a w.drew) Ls) : (Code.region id l.toArray true).wp P Q a w := by
  unfold panicB at hc
  rw [Bool.and_eq_true] at hc
  obtain ⟨hc, hopt⟩ := hc
  obtain ⟨ok, _, hcl⟩ := callB_ok hc
  have hclt : c < l.length := by simpa using ok.lt
  have hR : ∀ a w, (sideB l a = true ∧ wpList P l.toArray (NoNormal Q) ([c].filterMap fun j => l.toArray[j]?) a w) → ∀ (j : Nat) o, l.toArray[j]? = some o → sideIf l.toArray o a := by
    intro a w hr j o ho hw
    have h1 := List.all_eq_true.1 hr.1 o (by
      obtain ⟨hlt, e⟩ := (Array.getElem?_eq_some_iff.1 ho)
      subst e
      simp)
    rw [hw] at h1
    simpa using h1
  have hno : ∀ j, (Array.replicate l.toArray.size false).getD j false = false := by
    intro j
    simp only [Array.getD_eq_getD_getElem?, Array.getElem?_replicate]
    split <;> rfl
  have hd : Down l.toArray (Array.replicate l.toArray.size false) := ⟨by simp, fun j o ho hl => by rw [hno] at hl; cases hl⟩
  refine wp_region_any hm ?_
  have hdrew : ({ w with drawn := w.drawn + 1 } : World) = w.drew := rfl
  rw [hdrew]
  have hrest : rest l.toArray (Array.replicate l.toArray.size false) = List.range l.toArray.size := by
    unfold rest
    rw [List.filter_eq_self.2]
    intro i hi
    have := List.mem_range.1 hi
    simp at this
    simp [this]
  refine any_of_panic (R := fun a w => sideB l a = true ∧ wpList P l.toArray (NoNormal Q) ([c].filterMap fun j => l.toArray[j]?) a w) ok hR (fun a w hr => ?_) _ _ hd (hno c) ?_ a _ (fun M hM => ?_)
  · have h2 := hr.2
    rw [← wpOps_list, wpOps_cons] at h2
    exact wpOp_out NoNormal.out (wpOp_mono (fun a w h => h) h2)
  · rw [hrest]; simp
  · rw [hrest]
    have hlist : (List.range l.toArray.size).filter (fun j => M j) ∈ aheadOf l c FN := by
      refine List.mem_map.2 ⟨FN.filter (fun j => M j), mem_subs M FN, ?_⟩
      rw [show l.toArray.size = l.length by simp]
      refine List.filter_congr fun j hj => ?_
      have hjl := List.mem_range.1 hj
      have hmem : ∀ x, x ∈ FN.filter (fun j => M j) → M x = true := fun x hx => (List.mem_filter.1 hx).2
      rw [Bool.eq_iff_iff]
      constructor
      · intro hj
        unfold m0 at hj
        rw [Bool.or_eq_true] at hj
        rcases hj with hj | hj
        · exact hM.down hd (dep_bits hj) (.inr rfl) (hno j) (hno c)
        · obtain ⟨x, hx, hj⟩ := List.any_eq_true.1 hj
          rw [Bool.or_eq_true] at hj
          rcases hj with hj | hj
          · have : x = j := by simpa using hj
            exact this ▸ hmem x hx
          · exact hM.down hd (dep_bits hj) (.inl (hmem x hx)) (hno j) (hno x)
      · intro hMj
        unfold m0
        have h1 := List.all_eq_true.1 hopt j hj
        simp only [Bool.or_eq_true] at h1 ⊢
        rcases h1 with ((h1 | h1) | h1) | h1
        · have : j = c := by simpa using h1
          rw [this, hM.not] at hMj; cases hMj
        · exact .inl h1
        · have := hM.down hd (dep_bits h1) (.inl hMj) (hno c) (hno j)
          rw [hM.not] at this; cases this
        · refine .inr (List.any_eq_true.2 ⟨j, List.mem_filter.2 ⟨by simpa using h1, hMj⟩, by simp⟩)
    have hin2 : (List.range l.toArray.size).filter (fun j => M j) ∈ Ls := by
      have := List.all_eq_true.1 hL _ hlist
      simpa using this
    have := h.mem _ hin2
    rw [← wpOps_list] at this
    exact this
end
end Vl
