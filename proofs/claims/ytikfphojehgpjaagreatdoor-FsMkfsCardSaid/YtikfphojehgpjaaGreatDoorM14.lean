/- seal: Open. -/
import Derived.Test.YtikfphojehgpjaaGreatDoorM13
import Derived.Stop.BytesEq
import Derived.Deep.MidRow
import Derived.Laws.Cover3
import Derived.BigQuiet
import Derived.IntWalk
set_option linter.unusedSimpArgs false
set_option linter.unusedVariables false
namespace Go.Proofs.YtikfphojehgpjaaGreatDoor
open Go.RowKit Vl
set_option linter.unusedVariables false

theorem size5 (w : World) : (sizeOf 5).run Tryz.prog w = .ok 1 w := by kernel_rfl
theorem equal299 (l m : List UInt8) (hl : l.length = 512) (hm : m.length = 512) (d : Nat) (w : World) : (Op.equalIn (d + 2) 299 (.agg (bcells l).toArray) (.agg (bcells m).toArray)).run Tryz.prog w = .ok (l == m) w :=
  run_equalIn_bytes w d 299 5 512 Tryz.underlying299 Tryz.underlying5 size5 l m hl hm
theorem or_i64 {a b : Nat} (ha : a < 256) (hb : b < 256) : bits .or .i64 (a : Int) ((b : Int) * 256) = ((a + 256 * b : Nat) : Int) := by
  have h : a ||| b * 256 = a + 256 * b := by
    have := Nat.two_pow_add_eq_or_of_lt (i := 8) ha b
    rw [Nat.or_comm, Nat.mul_comm b 256, ← this]
    omega
  show IntKind.wrap .i64 (((BitVec.ofInt 64 (a : Int) ||| BitVec.ofInt 64 ((b : Int) * 256)).toNat : Nat) : Int) = _
  have e : (BitVec.ofInt 64 (a : Int) ||| BitVec.ofInt 64 ((b : Int) * 256)).toNat = a + 256 * b := by
    have e1 : (b : Int) * 256 = ((b * 256 : Nat) : Int) := by omega
    rw [e1, BitVec.toNat_or, BitVec.ofInt_natCast, BitVec.ofInt_natCast, BitVec.toNat_ofNat, BitVec.toNat_ofNat, Nat.mod_eq_of_lt (by omega), Nat.mod_eq_of_lt (by omega), h]
  rw [e, wrap_i64 (by omega)]
theorem said_eq {l : List UInt8} (h : 3 ≤ l.length) : saidLen l = (l.getD 1 0).toNat + 256 * (l.getD 2 0).toNat := by
  unfold saidLen
  rcases l with _ | ⟨x, _ | ⟨a, _ | ⟨b, r⟩⟩⟩
  · simp only [List.length_nil] at h; omega
  · simp only [List.length_cons, List.length_nil] at h; omega
  · simp only [List.length_cons, List.length_nil] at h; omega
  · clear h; simp [leV]

theorem BytesT.range {w : World} {g t : Nat} {l : List UInt8} (h : BytesT w g t l) : w.rangeAt g 0 (bcells l) := fun j v hj => by
  rw [Nat.zero_add, cell_whole h j, ← hj]
  simp
theorem Kept.drewN {F : List Nat} {a w : World} (h : Kept F a w) (n : Nat) : Kept F a (w.drewN n) := ⟨h.os, h.tape, h.output, h.size, h.block⟩
def OpenPost (l : List UInt8) (w : World) (e : Ending) (w' : World) : Prop := Kept [] w w' ∧
  ((openB l = none ∧ e = .returned (.tuple #[.slice none 0 0, .int .i64 30])) ∨
   (∃ b ga, openB l = some b ∧ w.heap.size ≤ ga ∧ e = .returned (.tuple #[.slice (some ⟨ga, 7, none⟩) b.length b.length, .int .i64 0]) ∧ BytesAt w' (some ⟨ga, 7, none⟩) b))
theorem BytesAt.range {w : World} {g o : Nat} {l : List UInt8} (h : BytesAt w (some ⟨g, o, none⟩) l) : w.rangeAt g o (bcells l) := fun j v hj => by
  have := h.cells hj
  rwa [Addr.add_lit] at this
set_option maxRecDepth 100000 in
set_option maxHeartbeats 1000000 in
theorem open_walk (l : List UInt8) (g o c : Nat) (w : World) (h : BytesAt w (some ⟨g, o, none⟩) l) (hl : l.length = 512) (hp : ∀ b, openB l = some b → 0 < b.length) :
    Calls Tryz.prog 148 #[.slice (some ⟨g, o, none⟩) 512 c] w (OpenPost l w) := by
  have HR := Lib.hid h.range
  have hbl : (bcells l).length = 512 := by rw [bcells_length, hl]
  have h299 : (Tryz.prog.info? 299).map (·.size) = some (bcells l).length := by rw [size299, hbl]
  have H299 := Lib.hid h299
  have HL := Lib.hid hl
  have HP := Lib.hid hp
  have H := Lib.hid h
  clear hp h hl hbl h299
  have harr := run_arrayAt (P := Tryz.prog) w 299 5 512 (some ⟨g, o, none⟩) 512 c Tryz.underlying299 (Nat.le_refl _)
  have hz : (bcells zsec).toArray.size = (bcells l).toArray.size := by simp [HL.out, zsec_length]
  have h2 : (Tryz.prog.info? 299).map (·.size) = some (bcells l).toArray.size := by rw [H299.out]; simp
  have HZ := Lib.hid hz
  have H2 := Lib.hid h2
  clear hz h2
  go_enter Tryz.func148, Tryz.ntmps148
  go_upto_region 4 with (first | (refine wpList_load_mid rfl 299 _ rfl g o rfl (bcells l) _ HR.out Tryz.underlying299 rfl H299.out ?_) | (refine wpList_store_row rfl 299 _ _ rfl w.heap.size _ rfl rfl 299 _ (zero299 ▸ heap_alloc_new w _) H2.out HZ.out (bcells_all l) ?_))
  have hB : BytesT ((w.alloc (.cells Tryz.zeroCells299 299)).setRow w.heap.size (bcells l).toArray) w.heap.size 299 l := setRow_whole (heap_alloc_new w (.cells Tryz.zeroCells299 299))
  have hK := ((Kept.refl [] w).alloc (.cells Tryz.zeroCells299 299)).setRow w.heap.size (bcells l).toArray (.inr (Nat.le_refl _))
  generalize (w.alloc (.cells Tryz.zeroCells299 299)).setRow w.heap.size (bcells l).toArray = w1 at *
  generalize hb : w.heap.size = b at *
  have HBW := Lib.hid (Nat.le_of_eq hb)
  have HB := Lib.hid hB
  have HK := Lib.hid hK
  have c0 := hB.cell (i := 0) (by rw [HL.out]; omega)
  have c1 := hB.cell (i := 1) (by rw [HL.out]; omega)
  have c2 := hB.cell (i := 2) (by rw [HL.out]; omega)
  have g0 : l[0]'(by rw [HL.out]; omega) = l.getD 0 0 := by simp [HL.out]
  have g1 : l[1]'(by rw [HL.out]; omega) = l.getD 1 0 := by simp [HL.out]
  have g2 : l[2]'(by rw [HL.out]; omega) = l.getD 2 0 := by simp [HL.out]
  rw [g0] at c0
  rw [g1] at c1
  rw [g2] at c2
  have hn := said_eq (l := l) (by rw [HL.out]; omega)
  have hopen : openB l = if (l.getD 0 0).toNat < 3 ∧ saidLen l ≤ 504 ∧ l = sealSec (l.getD 0 0) (saidBody l) then some (saidBody l) else none := rfl
  have hblen : saidLen l ≤ 504 → (saidBody l).length = saidLen l := fun h => by unfold saidBody; rw [List.length_take, List.length_drop, HL.out]; omega
  have hpart := hB.part 7 (saidLen l)
  have hsb : (l.drop 7).take (saidLen l) = saidBody l := rfl
  rw [hsb, HL.out] at hpart
  have hor := or_i64 (a := (l.getD 1 0).toNat) (b := (l.getD 2 0).toNat) (l.getD 1 0).toNat_lt (l.getD 2 0).toNat_lt
  rw [← hn] at hor
  have hx := (l.getD 0 0).toNat_lt
  have hx1 := (l.getD 1 0).toNat_lt
  have hx2 := (l.getD 2 0).toNat_lt
  have hnl : saidLen l < 65536 := by omega
  clear hn g0 g1 g2 hB hK hb
  have HSB := Lib.hid hsb
  clear hsb
  have HOP := Lib.hid hopen
  have HBL := Lib.hid hblen
  have HPA := Lib.hid hpart
  have hltb := lt_whole HB.out
  clear hopen hblen hpart
  generalize saidLen l = n at *
  generalize saidBody l = body at *
  generalize hX : l.getD 0 0 = X at *
  generalize hx' : X.toNat = x at *
  generalize (l.getD 1 0).toNat = y at *
  generalize (l.getD 2 0).toNat = z at *
  have HX := Lib.hid hX
  have HX2 := Lib.hid hx'
  clear hX hx'
  go_wp2_with fail
  by_cases h3 : 3 ≤ x
  · have t1 : decide ((3 : Int) ≤ (x : Int)) = true := decide_eq_true (by omega)
    have HN := Lib.hid (show openB l = none by rw [HOP.out]; exact if_neg (fun h => by have h1 := h.1; omega))
    clear h3
    go_quiet (fail)
    go_wp2
    go_ret2
    exact ⟨HK.out.drewN _, .inl ⟨HN.out, rfl⟩⟩
  · have t1 : decide ((3 : Int) ≤ (x : Int)) = false := decide_eq_false (by omega)
    by_cases h5 : 504 < n
    · have t2 : decide ((504 : Int) < (n : Int)) = true := decide_eq_true (by omega)
      have HN := Lib.hid (show openB l = none by rw [HOP.out]; exact if_neg (fun h => by have h1 := h.2.1; omega))
      clear h3 h5
      go_quiet (fail)
      go_wp2
      go_ret2
      exact ⟨HK.out.drewN _, .inl ⟨HN.out, rfl⟩⟩
    · have t2 : decide ((504 : Int) < (n : Int)) = false := decide_eq_false (by omega)
      have h3' : x < 3 := by omega
      have h5' : n ≤ 504 := by omega
      have hbl := HBL.out h5'
      have HPB := Lib.hid (HPA.out (by omega))
      have HS : Hid (∀ w', Kept [] w w' → w'.heap[b]? = w1.heap[b]? → w'.rangeAt b 0 (bcells l) ∧ w'.cell? ⟨b, 0, none⟩ = some (.int .u8 x) ∧ Kept [] w w' ∧ w'.heap[b]? = w1.heap[b]?) := Lib.hid (fun w' hk hb =>
        ⟨BytesT.range (hb.trans HB.out), by rw [show w'.cell? ⟨b, 0, none⟩ = w1.cell? ⟨b, 0, none⟩ by unfold World.cell?; rw [hb]]; exact c0, hk, hb⟩)
      have HC : Hid (∀ w0, Kept [] w w0 → w0.heap[b]? = w1.heap[b]? → Calls Tryz.prog 188 #[.int .u8 x, .slice (some ⟨b, 7, none⟩) n 505] w0 fun e w' => e = .returned (.agg (bcells (sealSec X body)).toArray) ∧ Kept [] w w' ∧ w'.heap[b]? = w1.heap[b]?) := Lib.hid (by
        intro w0 hk hb
        rw [← hbl, ← HX2.out]
        have hbb : BytesT w0 b 299 l := hb.trans HB.out
        have hp := hbb.part 7 n (by rw [HL.out]; omega)
        rw [show (l.drop 7).take n = body from HSB.out] at hp
        refine (lay_walk X body b 7 505 w0 hp (by omega)).mono ?_
        rintro e w' ⟨rfl, h⟩
        exact ⟨rfl, hk.trans h (by simp), (h.block b (lt_whole hbb) (by simp)).trans hb⟩)
      have hk0 : Kept [] w w1.drew := HK.out.drew
      have hb0 : w1.drew.heap[b]? = w1.heap[b]? := rfl
      have hw7 : IntKind.wrap .i64 (7 + (n : Int)) = 7 + (n : Int) := IntWalk.i64_in _ (by omega)
      have hz7 : (0 : Int) ≤ 7 + (n : Int) := by omega
      have ht7 : (7 + (n : Int)).toNat = 7 + n := by omega
      have hle7 : 7 + (n : Int) ≤ 512 := by omega
      have hle8 : 7 + n ≤ 512 := by omega
      have hge7 : (7 : Int) ≤ 7 + (n : Int) := by omega
      have hge8 : 7 ≤ 7 + n := by omega
      have hsub : 7 + n - 7 = n := by omega
      have hu := Tryz.underlying299
      have hsz : (Tryz.prog.info? 299).map (·.size) = some (bcells l).length := H299.out
      have heq := fun w => equal299 l (sealSec X body) HL.out (sealSec_length _ (by omega)) 9998 w
      have HBL2 := Lib.hid hbl
      clear hbl
      go_region_held3 (fun w' => w'.rangeAt b 0 (bcells l) ∧ w'.cell? ⟨b, 0, none⟩ = some (.int .u8 x) ∧ Kept [] w w' ∧ w'.heap[b]? = w1.heap[b]?)
        (first
          | (with_reducible exact HS.out _ hk0 hb0)
          | (with_reducible exact HS.out _ hkw hbw))
        ((first
          | (go_simp; go_at_call 188; (with_reducible refine (HC.out _ hk0 hb0).mono ?_); rintro e w' ⟨rfl, hkw, hbw⟩)))
      have HKW := Lib.hid hkw
      have HBW2 := Lib.hid (show BytesT w' b 299 l from hbw.trans HB.out)
      clear hkw hbw heq hw7 hz7 hu hsz hk0 hb0 c0 c1 c2 t1 t2
      by_cases hs : l = sealSec X body
      · have t3 : (l == sealSec X body) = true := beq_iff_eq.2 hs
        have HN := Lib.hid (show openB l = some body by rw [HOP.out]; exact if_pos ⟨h3', h5', hs⟩)
        have hpos := HP.out body HN.out
        rw [HBL2.out] at hpos
        have HPT := Lib.hid (show BytesAt w' (some ⟨b, 7, none⟩) body by
          have := HBW2.out.part 7 n (by rw [HL.out]; omega)
          rwa [show (l.drop 7).take n = body from HSB.out] at this)
        have HBB := Lib.hid HBW.out
        clear hs
        generalize (l == sealSec X body) = q at *
        subst t3
        go_wp2
        go_ret2
        refine ⟨HKW.out, .inr ⟨body, b, HN.out, HBW.out, ?_, HPT.out⟩⟩
        rw [HBL2.out]
        rfl
      · have t3 : (l == sealSec X body) = false := beq_eq_false_iff_ne.2 hs
        have HN := Lib.hid (show openB l = none by rw [HOP.out]; exact if_neg (fun h => hs h.2.2))
        clear hs
        generalize (l == sealSec X body) = q at *
        subst t3
        go_wp2
        go_ret2
        exact ⟨HKW.out, .inl ⟨HN.out, rfl⟩⟩
end Go.Proofs.YtikfphojehgpjaaGreatDoor
/- seal: read, pair. -/
namespace Go.Proofs.YtikfphojehgpjaaGreatDoor
open Go.RowKit Vl
set_option linter.unusedVariables false

def ReadAPost (l : List UInt8) (w : World) (e : Ending) (w' : World) : Prop := Kept [] w w' ∧ ∃ a c, e = .returned (.agg #[.int .i64 (anchorN l), .slice a (anchorD l).length c]) ∧ BytesAt w' a (anchorD l)
theorem read_none {l : List UInt8} {w w' : World} (hk : Kept [] w w') (h : anchorN l = 0) : ReadAPost l w (.returned (.agg #[.int .i64 0, .slice none 0 0])) w' := by
  have hd : anchorD l = [] := if_pos h
  refine ⟨hk, none, 0, ?_, ?_⟩
  · rw [hd, h]; rfl
  · rw [hd]; intro i hi; exact absurd hi (by simp)
theorem leV_step (b : List UInt8) (i : Nat) (hi : i < b.length) : leV (b.drop i) = b[i].toNat + 256 * leV (b.drop (i + 1)) := by
  rw [List.drop_eq_getElem_cons hi]; rfl
theorem leV_step8 (b : List UInt8) (i : Nat) (hi : i < b.length) (h8 : i < 8) : leV ((b.take 8).drop i) = b[i].toNat + 256 * leV ((b.take 8).drop (i + 1)) := by
  have h : i < (b.take 8).length := by rw [List.length_take]; omega
  rw [leV_step _ i h, List.getElem_take]
theorem leV_lt8 (b : List UInt8) (i : Nat) (hb : 8 ≤ b.length) : leV ((b.take 8).drop (i + 1)) < 72057594037927936 := by
  have h := leV_lt ((b.take 8).drop (i + 1))
  rw [List.length_drop, List.length_take, Nat.min_eq_left hb] at h
  have : 256 ^ (8 - (i + 1)) ≤ 256 ^ 7 := Nat.pow_le_pow_right (by omega) (by omega)
  exact Nat.lt_of_lt_of_le h this
theorem or_u64_step {n x : Nat} (hn : n < 72057594037927936) (hx : x < 256) : bits .or .u64 ((n : Int) * 256) (x : Int) = ((x + 256 * n : Nat) : Int) := by
  have h : n * 256 ||| x = x + 256 * n := by
    have := Nat.two_pow_add_eq_or_of_lt (i := 8) hx n
    rw [Nat.mul_comm n 256, ← this]; omega
  rw [show (n : Int) * 256 = ((n * 256 : Nat) : Int) by omega, or_u64 (by omega) (by omega), h]

set_option maxRecDepth 100000 in
set_option maxHeartbeats 1000000 in
theorem readA_walk (l : List UInt8) (g o c : Nat) (w : World) (h : BytesAt w (some ⟨g, o, none⟩) l) (hl : l.length = 512) (hp : ∀ b, openB l = some b → 0 < b.length) :
    Calls Tryz.prog 187 #[.slice (some ⟨g, o, none⟩) 512 c] w (ReadAPost l w) := by
  have hx := heap_alloc_new w (.cells #[.int .i64 0, .slice none 0 0] 246)
  have hk := (Kept.refl [] w).alloc (.cells #[.int .i64 0, .slice none 0 0] 246)
  have HO := Lib.hid (open_walk l g o c (w.alloc (.cells #[.int .i64 0, .slice none 0 0] 246)) (h.below hk.below) hl hp)
  have HX := Lib.hid hx
  have HK := Lib.hid hk
  have HP := Lib.hid hp
  clear hx hk h hl hp
  go_enter Tryz.func187, Tryz.ntmps187
  go_wp2_with fail
  refine HO.out.mono ?_
  rintro e w1 ⟨hk1, hcase⟩
  have HK1 := Lib.hid (HK.out.trans hk1 (by simp))
  have HX1 := Lib.hid (hk1.keep HX.out (by simp))
  generalize hr : w.heap.size = r at *
  have HR := Lib.hid (Nat.le_of_eq hr)
  have HRE := Lib.hid hr
  clear hr hk1 HX HK HO
  have c0 := cell_whole HX1.out 0
  have c1 := cell_whole HX1.out 1
  have f0 := frozen_whole HX1.out 0
  have f1 := frozen_whole HX1.out 1
  have hlt := lt_whole HX1.out
  simp only [List.getElem?_toArray, List.getElem?_cons_zero, List.getElem?_cons_succ] at c0 c1
  have HEND := Lib.hid (fun (tmps : Array Value) (w : World) (cs : Array Value) (hc : (Tryz.prog.info? 246).map (·.size) = some cs.size) (hp : tmps.getD 2 undef = .pointer (some ⟨r, 0, none⟩)) (hg : w.heap[r]? = some (.cells cs 246 (0, 0))) =>
    results_cell_row (P := Tryz.prog) (fn := Tryz.f187) (p := 2) (ty := 246) rfl tmps w r 246 cs (0, 0) _ hp hg Tryz.underlying246 rfl hc)
  have HSET : Hid (∀ (wr : World) (v0 v1 : Value) (cs : Array Value), wr.heap[r]? = some (.cells cs 246 (0, 0)) → cs.size = 2 → ((wr.setCell ⟨r, 0, none⟩ v0).setCell ⟨r, 1, none⟩ v1).heap[r]? = some (.cells #[v0, v1] 246 (0, 0))) := Lib.hid (by
    intro wr v0 v1 cs hcs h2
    rw [set_whole (i := 1) (set_whole (i := 0) hcs v0) v1]
    congr 2
    match cs, h2 with
    | ⟨[_, _]⟩, _ => rfl)
  rcases hcase with ⟨hn, rfl⟩ | ⟨b, ga, hb, hga, rfl, hbb⟩
  · have HN := Lib.hid (anchorN_none hn)
    clear hn
    go_wp2
    refine bodyPost_ret (HEND.out _ _ _ (by kernel_rfl) rfl (HSET.out _ _ _ _ HX1.out rfl)) rfl ?_
    exact read_none ((HK1.out.setCell _ _ (.inr HR.out)).setCell _ _ (.inr HR.out)) HN.out
  · have hble := openB_len hb
    by_cases h8 : b.length < 8
    · have t1 : decide ((b.length : Int) < 8) = true := decide_eq_true (by omega)
      have HN := Lib.hid (show anchorN l = 0 by unfold anchorN; rw [hb]; exact if_pos (.inl h8))
      obtain ⟨m, hm⟩ : ∃ m, m = b.length := ⟨_, rfl⟩
      rw [← hm] at t1 ⊢
      clear hb h8 hm hble
      go_wp2
      refine bodyPost_ret (HEND.out _ _ _ (by kernel_rfl) rfl (HSET.out _ _ _ _ HX1.out rfl)) rfl ?_
      exact read_none ((HK1.out.setCell _ _ (.inr HR.out)).setCell _ _ (.inr HR.out)) HN.out
    · have t1 : decide ((b.length : Int) < 8) = false := decide_eq_false (by omega)
      have h504 := hble.1
      have HAN := Lib.hid (show anchorN l = if b.length < 8 ∨ 2 ^ 63 ≤ leV (b.take 8) then 0 else leV (b.take 8) by unfold anchorN; rw [hb])
      have HAD := Lib.hid (show anchorN l ≠ 0 → anchorD l = b.drop 8 by
        intro h0
        unfold anchorD
        rw [if_neg h0]
        have : saidBody l = b := by
          have h1 := hble.2.2.2.1
          have := congrArg saidBody h1
          rw [seal_body hble.1] at this
          exact this
        rw [this])
      have HBB := Lib.hid hbb
      have HGA := Lib.hid (show r < ga by rw [size_alloc, HRE.out] at hga; omega)
      have HBE : Hid (leV ((b.take 8).drop 8) = 0) := Lib.hid (by rw [List.drop_eq_nil_of_le (by rw [List.length_take]; omega)]; rfl)
      obtain ⟨m, hm⟩ : ∃ m, m = b.length := ⟨_, rfl⟩
      rw [← hm] at t1 h504 h8 ⊢
      have HM := Lib.hid hm
      have h8' : 8 ≤ m := by omega
      clear hb hble hbb hm h8
      go_wp2_with fail
      go_loopw [5, 6] (fun v5 v6 wr => ∃ j : Nat, j ≤ 8 ∧ v6 = .int .i64 ((j : Int) - 1) ∧ v5 = .int .u64 (leV ((b.take 8).drop j)) ∧ wr = w1) (fun _ v6 _ => (intOf v6 + 1).toNat)
      case atStart => exact ⟨8, by omega, rfl, by rw [HBE.out]; rfl, rfl⟩
      case round =>
        obtain ⟨j, hj, rfl, rfl, rfl⟩ := hrel
        by_cases hj0 : j = 0
        · subst hj0
          have hV : leV ((b.take 8).drop 0) < 18446744073709551616 := by
            have h := leV_lt ((b.take 8).drop 0)
            have : 256 ^ ((b.take 8).drop 0).length ≤ 256 ^ 8 := Nat.pow_le_pow_right (by omega) (by rw [List.drop_zero, List.length_take]; omega)
            exact Nat.lt_of_lt_of_le h this
          rw [List.drop_zero] at hV ⊢
          have hml := HM.out
          generalize leV (b.take 8) = V at *
          by_cases hbig : V = 0 ∨ 9223372036854775807 < V
          · have HN := Lib.hid (show anchorN l = 0 by
              rw [HAN.out]
              split
              · rfl
              · rename_i hno
                rcases hbig with h | h
                · exact h
                · exact absurd (.inr (by omega)) hno)
            have HQ := Lib.hid (read_none ((HK1.out.setCell ⟨r, 0, none⟩ (.int .i64 0) (.inr HR.out)).setCell ⟨r, 1, none⟩ (.slice none 0 0) (.inr HR.out)) HN.out)
            rcases hbig with hz | hz
            · have z1 : ((V : Int) == 0) = true := beq_iff_eq.2 (by omega)
              clear hml
              go_wp2
              refine bodyPost_ret (HEND.out _ _ _ (by kernel_rfl) rfl (HSET.out _ _ _ _ HX1.out rfl)) rfl ?_
              exact HQ.out
            · have z1 : ((V : Int) == 0) = false := beq_eq_false_iff_ne.2 (by omega)
              have z2 : decide ((9223372036854775807 : Int) < (V : Int)) = true := decide_eq_true (by omega)
              clear hml
              go_wp2
              refine bodyPost_ret (HEND.out _ _ _ (by kernel_rfl) rfl (HSET.out _ _ _ _ HX1.out rfl)) rfl ?_
              exact HQ.out
          · have z1 : ((V : Int) == 0) = false := beq_eq_false_iff_ne.2 (by omega)
            have z2 : decide ((9223372036854775807 : Int) < (V : Int)) = false := decide_eq_false (by omega)
            have hN : anchorN l = V := by
              rw [HAN.out]
              exact if_neg (by omega)
            have HN := Lib.hid hN
            have HD := Lib.hid (HAD.out (by rw [hN]; omega))
            have hDL : (anchorD l).length = m - 8 := by rw [HD.out, List.length_drop, ← hml]
            have HDL := Lib.hid hDL
            have hcv : IntKind.wrap .i64 (V : Int) = (V : Int) := IntWalk.i64_in _ (by omega)
            have hbat : BytesAt wr (some ⟨ga, 15, none⟩) (b.drop 8) := fun i hi => by
              rw [List.length_drop] at hi
              obtain ⟨g', o', e1, hgl, hce⟩ := HBB.out (8 + i) (by omega)
              injection e1 with e2
              injection e2 with e3 e4 _
              subst e3; subst e4
              refine ⟨ga, 15, rfl, hgl, ?_⟩
              rw [show (15 : Nat) + i = 7 + (8 + i) by omega, hce]
              simp
            have HBAT := Lib.hid hbat
            clear hN hDL hbat hV hbig
            by_cases hm8 : m = 8
            · subst hm8
              have HL0 := Lib.hid (show anchorD l = [] by rw [HD.out, List.drop_eq_nil_of_le (by omega)])
              clear hml
              go_wp2
              refine bodyPost_ret (HEND.out _ _ _ (by kernel_rfl) rfl (HSET.out _ _ _ _ HX1.out rfl)) rfl ?_
              refine ⟨(HK1.out.setCell _ _ (.inr HR.out)).setCell _ _ (.inr HR.out), some ⟨ga, 7, none⟩, 0, ?_, ?_⟩
              · rw [HL0.out, HN.out]; rfl
              · rw [HL0.out]; intro i hi; exact absurd hi (by simp)
            · have h9 : ¬ m = 8 := hm8
              have h9' : (m == 8) = false := beq_eq_false_iff_ne.2 hm8
              clear hml
              go_wp2
              refine bodyPost_ret (HEND.out _ _ _ (by kernel_rfl) rfl (HSET.out _ _ _ _ HX1.out rfl)) rfl ?_
              refine ⟨(HK1.out.setCell _ _ (.inr HR.out)).setCell _ _ (.inr HR.out), some ⟨ga, 15, none⟩, m - 8, ?_, ?_⟩
              · rw [HDL.out, HN.out]
              · intro i hi
                obtain ⟨g', o', e1, hgl, hce⟩ := (HD.out ▸ HBAT.out : BytesAt wr (some ⟨ga, 15, none⟩) (anchorD l)) i hi
                injection e1 with e2
                injection e2 with e3 e4 _
                subst e3; subst e4
                have hne := HGA.out
                refine ⟨ga, 15, rfl, by rw [size_set, size_set]; exact hgl, ?_⟩
                rw [← hce]
                unfold World.cell?
                rw [Below.heap_setCell _ _ _ _ (by show ga ≠ r; omega), Below.heap_setCell _ _ _ _ (by show ga ≠ r; omega)]
        · obtain ⟨i, rfl⟩ : ∃ i, j = i + 1 := ⟨j - 1, by omega⟩
          have hi : i < b.length := by have := HM.out; omega
          obtain ⟨g', o', e1, hgl, hce⟩ := HBB.out i hi
          injection e1 with e2
          injection e2 with e3 e4 _
          subst e3; subst e4
          have hst := leV_step8 b i hi (by omega)
          have h56 := leV_lt8 b i (by have := HM.out; omega)
          have hor := or_u64_step h56 (b[i].toNat_lt)
          rw [← hst] at hor
          have hx := b[i].toNat_lt
          have HOR := Lib.hid hor
          clear hst hor
          generalize leV ((b.take 8).drop (i + 1)) = n at *
          generalize b[i].toNat = x at *
          go_wp2
          exact ⟨⟨i, by omega, rfl, by rw [HOR.out], trivial⟩, by simp [intOf]⟩
end Go.Proofs.YtikfphojehgpjaaGreatDoor
/- seal: pair, Newest. -/
namespace Go.Proofs.YtikfphojehgpjaaGreatDoor
open Go.RowKit Vl
set_option linter.unusedVariables false

def pairSlot (A B : Nat) : Int := if A = 0 ∧ B = 0 then -1 else if A < B then 1 else 0
def PairPost (l r : List UInt8) (w : World) (e : Ending) (w' : World) : Prop := Kept [] w w' ∧ ∃ a c b d, e = .returned (.tuple #[.agg #[.int .i64 (anchorN l), .slice a (anchorD l).length c, .int .i64 (anchorN r), .slice b (anchorD r).length d], .int .i64 (pairSlot (anchorN l) (anchorN r)), .int .i64 0]) ∧
  BytesAt w' a (anchorD l) ∧ BytesAt w' b (anchorD r)
theorem anchorN_lt (l : List UInt8) : anchorN l < 9223372036854775808 := by
  unfold anchorN
  split
  · omega
  · split
    · omega
    · rename_i h; omega
/-- Bytes lie in no block that holds none. -/
theorem BytesAt.besides {w w' : World} {a : Option Addr} {l : List UInt8} {q : Nat} {cs : Array Value} {t : TypeId} {fr : Nat × Nat} (h : BytesAt w a l) (hk : Kept [q] w w') (hq : w.heap[q]? = some (.cells cs t fr)) (hc : ∀ (i : Nat) (v : Int), cs[i]? ≠ some (.int .u8 v)) : BytesAt w' a l := by
  intro i hi
  obtain ⟨g, o, e, hg, hce⟩ := h i hi
  refine ⟨g, o, e, Nat.lt_of_lt_of_le hg hk.size, ?_⟩
  rw [cell_kept hk hg (by
    intro hm
    have e2 : g = q := by simpa using hm
    subst e2
    rw [cell_whole hq] at hce
    exact hc _ _ hce)]
  exact hce
theorem results_row_tmp2 {P : Program} {fn : Func} {p u v : Tmp} {ty : TypeId} (h : fn.results = #[.cell p ty, .tmp u, .tmp v]) (tmps : Array Value) (w : World) (g : Nat) (t : TypeId) (cs : Array Value) (fr : Nat × Nat) (d : TypeDesc)
    (hp : tmps.getD p undef = .pointer (some ⟨g, 0, none⟩)) (hg : w.heap[g]? = some (.cells cs t fr)) (hu : P.underlying ty = some d) (hd : (match d with | .struct _ | .array _ _ => true | _ => false) = true) (hi : (P.info? ty).map (·.size) = some cs.size) :
    (results fn tmps).run P w = .ok (.tuple #[.agg cs, tmps.getD u undef, tmps.getD v undef]) w := by
  have hp' : tmps[p]?.getD undef = .pointer (some ⟨g, 0, none⟩) := by simpa using hp
  simp [results, h, hp', asAddr, run_loadVar_row w g t ty cs fr d hg hu hd hi]
theorem set4 {w : World} {q : Nat} {t : TypeId} {cs : Array Value} (h : w.heap[q]? = some (.cells cs t (0, 0))) (hs : cs.size = 4) (v0 v1 v2 v3 : Value) :
    ((((w.setCell ⟨q, 0, none⟩ v0).setCell ⟨q, 1, none⟩ v1).setCell ⟨q, 2, none⟩ v2).setCell ⟨q, 3, none⟩ v3).heap[q]? = some (.cells #[v0, v1, v2, v3] t (0, 0)) ∧
    Kept [q] w ((((w.setCell ⟨q, 0, none⟩ v0).setCell ⟨q, 1, none⟩ v1).setCell ⟨q, 2, none⟩ v2).setCell ⟨q, 3, none⟩ v3) := by
  refine ⟨?_, ((((Kept.refl [q] w).setCell _ _ (.inl (by simp))).setCell _ _ (.inl (by simp))).setCell _ _ (.inl (by simp))).setCell _ _ (.inl (by simp))⟩
  rw [set_whole (i := 3) (set_whole (i := 2) (set_whole (i := 1) (set_whole (i := 0) h v0) v1) v2) v3]
  congr 2
  match cs, hs with
  | ⟨[_, _, _, _]⟩, _ => rfl
theorem no_u8 (x y : Int) (u v : Value) (hu : ∀ k, u ≠ .int .u8 k) (hv : ∀ k, v ≠ .int .u8 k) : ∀ (i : Nat) (z : Int), (#[Value.int .i64 x, u, .int .i64 y, v] : Array Value)[i]? ≠ some (.int .u8 z) := by
  intro i z
  match i with
  | 0 => simp
  | 1 => simpa using hu z
  | 2 => simp
  | 3 => simpa using hv z
  | n + 4 => simp
/-- Every sealed sector has a body. -/
def Bodied (l : List UInt8) : Prop := l.length = 512 ∧ ∀ b, openB l = some b → 0 < b.length
set_option maxRecDepth 100000 in
set_option maxHeartbeats 1000000 in
theorem pair_walk (l r : List UInt8) (g o c h p d : Nat) (w : World) (hl : BytesAt w (some ⟨g, o, none⟩) l) (hr : BytesAt w (some ⟨h, p, none⟩) r) (bl : Bodied l) (br : Bodied r) :
    Calls Tryz.prog 146 #[.slice (some ⟨g, o, none⟩) 512 c, .slice (some ⟨h, p, none⟩) 512 d] w (PairPost l r w) := by
  have hk := (Kept.refl [] w).alloc (.cells #[.int .i64 0, .slice none 0 0, .int .i64 0, .slice none 0 0] 247)
  have HX := Lib.hid (heap_alloc_new w (.cells #[.int .i64 0, .slice none 0 0, .int .i64 0, .slice none 0 0] 247))
  have HK := Lib.hid hk
  have HL := Lib.hid (readA_walk l g o c (w.alloc (.cells #[.int .i64 0, .slice none 0 0, .int .i64 0, .slice none 0 0] 247)) (hl.below hk.below) bl.1 bl.2)
  have HR := Lib.hid (fun w' (k : Kept [] w w') => readA_walk r h p d w' (hr.below k.below) br.1 br.2)
  have ha := anchorN_lt l
  have hb := anchorN_lt r
  clear hk hl hr bl br
  go_enter Tryz.func146, Tryz.ntmps146
  go_wp2_with fail
  refine HL.out.mono ?_
  rintro e w1 ⟨hk1, a, ca, rfl, hba⟩
  have HK1 := Lib.hid (HK.out.trans hk1 (by simp))
  have HX1 := Lib.hid (hk1.keep HX.out (by simp))
  have HBA := Lib.hid hba
  clear hba hk1 HX HK HL
  go_wp2_with fail
  refine (HR.out w1 HK1.out).mono ?_
  rintro e w2 ⟨hk2, b, cb, rfl, hbb⟩
  have HK2 := Lib.hid (HK1.out.trans hk2 (by simp))
  have HX2 := Lib.hid (hk2.keep HX1.out (by simp))
  have HBA2 := Lib.hid (HBA.out.below hk2.below)
  have HBB := Lib.hid hbb
  clear hbb hk2 HX1 HK1 HBA HR
  generalize hq : w.heap.size = q at *
  have HQ := Lib.hid (Nat.le_of_eq hq)
  clear hq
  have HNL : Hid (∃ n, n = (anchorD l).length) := Lib.hid ⟨_, rfl⟩
  obtain ⟨n, hn⟩ := HNL.out
  obtain ⟨m, hm⟩ : ∃ m, m = (anchorD r).length := ⟨_, rfl⟩
  obtain ⟨A, hA⟩ : ∃ A, A = anchorN l := ⟨_, rfl⟩
  obtain ⟨B, hB⟩ : ∃ B, B = anchorN r := ⟨_, rfl⟩
  have HP : Hid (∀ (sl : Int) w', sl = pairSlot A B → Kept [] w w' → BytesAt w' a (anchorD l) → BytesAt w' b (anchorD r) → PairPost l r w (.returned (.tuple #[.agg #[.int .i64 A, .slice a n ca, .int .i64 B, .slice b m cb], .int .i64 sl, .int .i64 0])) w') := Lib.hid (by
    intro sl w' h1 h2 h3 h4
    refine ⟨h2, a, ca, b, cb, ?_, h3, h4⟩
    rw [h1, hn, hm, hA, hB])
  rw [← hn, ← hm, ← hA, ← hB]
  rw [← hA] at ha
  rw [← hB] at hb
  clear hn hm hA hB HNL
  have c0 := cell_whole HX2.out 0
  have c1 := cell_whole HX2.out 1
  have c2 := cell_whole HX2.out 2
  have c3 := cell_whole HX2.out 3
  have f0 := frozen_whole HX2.out 0
  have f1 := frozen_whole HX2.out 1
  have f2 := frozen_whole HX2.out 2
  have f3 := frozen_whole HX2.out 3
  have hlt := lt_whole HX2.out
  simp only [List.getElem?_toArray, List.getElem?_cons_zero, List.getElem?_cons_succ] at c0 c1 c2 c3
  go_upto_region 4 with fail
  obtain ⟨hs3, hk3⟩ := set4 HX2.out rfl (.int .i64 A) (.slice a n ca) (.int .i64 B) (.slice b m cb)
  generalize (((w2.setCell ⟨q, 0, none⟩ (.int .i64 A)).setCell ⟨q, 1, none⟩ (.slice a n ca)).setCell ⟨q, 2, none⟩ (.int .i64 B)).setCell ⟨q, 3, none⟩ (.slice b m cb) = w3 at *
  have hba := HBA2.out.besides hk3 HX2.out (no_u8 _ _ _ _ (by simp) (by simp))
  have hbb := HBB.out.besides hk3 HX2.out (no_u8 _ _ _ _ (by simp) (by simp))
  have hkk := HK2.out.trans hk3 (by simp; exact HQ.out)
  obtain ⟨hs4, hk4⟩ := set4 hs3 rfl (.int .i64 A) (.slice a n ca) (.int .i64 B) (.slice b m cb)
  have HS4 := Lib.hid hs4
  have HQ4 := Lib.hid (fun (sl : Int) (hsl : sl = pairSlot A B) => HP.out sl _ hsl (hkk.trans hk4 (by simp; exact HQ.out)) (hba.besides hk4 hs3 (no_u8 _ _ _ _ (by simp) (by simp))) (hbb.besides hk4 hs3 (no_u8 _ _ _ _ (by simp) (by simp))))
  have HEND := Lib.hid (fun (tmps : Array Value) (w : World) (cs : Array Value) (hc : (Tryz.prog.info? 247).map (·.size) = some cs.size) (hp : tmps.getD 4 undef = .pointer (some ⟨q, 0, none⟩)) (hg : w.heap[q]? = some (.cells cs 247 (0, 0))) =>
    results_row_tmp2 (P := Tryz.prog) (fn := Tryz.f146) (p := 4) (u := 5) (v := 6) (ty := 247) rfl tmps w q 247 cs (0, 0) _ hp hg Tryz.underlying247 rfl hc)
  clear c0 c1 c2 c3 f0 f1 f2 f3 hlt hs4 hk4 hba hbb hkk hk3 HP
  have c0 := cell_whole hs3 0
  have c1 := cell_whole hs3 1
  have c2 := cell_whole hs3 2
  have c3 := cell_whole hs3 3
  have f0 := frozen_whole hs3 0
  have f1 := frozen_whole hs3 1
  have f2 := frozen_whole hs3 2
  have f3 := frozen_whole hs3 3
  have hlt := lt_whole hs3
  simp only [List.getElem?_toArray, List.getElem?_cons_zero, List.getElem?_cons_succ] at c0 c1 c2 c3
  clear hs3
  by_cases hz : A = 0 ∧ B = 0
  · obtain ⟨rfl, rfl⟩ := hz
    have t1 : (((0 : Nat) : Int) == 0) = true := rfl
    go_wp2
    refine bodyPost_ret (HEND.out _ _ _ (by kernel_rfl) rfl HS4.out) rfl ?_
    exact HQ4.out (-1) rfl
  · have hps : pairSlot A B = if A < B then 1 else 0 := if_neg hz
    have HG : Hid ((((A : Int) == 0) && ((B : Int) == 0)) = false) := Lib.hid (by
      rw [Bool.and_eq_false_iff]
      by_cases ha : A = 0
      · exact .inr (beq_eq_false_iff_ne.2 (by omega))
      · exact .inl (beq_eq_false_iff_ne.2 (by omega)))
    by_cases hab : A < B
    · have t2 : decide (A < B) = true := decide_eq_true hab
      have HS := Lib.hid (show (1 : Int) = pairSlot A B by rw [hps, if_pos hab])
      clear hps hab
      by_cases ha : A = 0
      · have t1 : ((A : Int) == 0) = true := beq_iff_eq.2 (by omega)
        have t3 : ((B : Int) == 0) = false := beq_eq_false_iff_ne.2 (by omega)
        clear ha hz
        go_wp2
        refine bodyPost_ret (HEND.out _ _ _ (by kernel_rfl) rfl HS4.out) rfl ?_
        exact HQ4.out 1 HS.out
      · have t1 : ((A : Int) == 0) = false := beq_eq_false_iff_ne.2 (by omega)
        clear ha hz
        go_wp2
        refine bodyPost_ret (HEND.out _ _ _ (by kernel_rfl) rfl HS4.out) rfl ?_
        exact HQ4.out 1 HS.out
    · have t2 : decide (A < B) = false := decide_eq_false hab
      have HS := Lib.hid (show (0 : Int) = pairSlot A B by rw [hps, if_neg hab])
      have t1 : ((A : Int) == 0) = false := beq_eq_false_iff_ne.2 (by omega)
      clear hps hab hz
      go_wp2
      refine bodyPost_ret (HEND.out _ _ _ (by kernel_rfl) rfl HS4.out) rfl ?_
      exact HQ4.out 0 HS.out
end Go.Proofs.YtikfphojehgpjaaGreatDoor
