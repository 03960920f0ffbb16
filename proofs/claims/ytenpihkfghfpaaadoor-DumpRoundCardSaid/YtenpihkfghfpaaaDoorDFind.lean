/- The reference's search among the items. -/
import Derived.Test.YtenpihkfghfpaaaDoorDItems
namespace Go.Proofs.YtenpihkfghfpaaaDoor
open Go.RowKit Vl
set_option linter.unusedVariables false

/-- A list of items, as it can be read. -/
structure ItemAt (w : World) (a : Option Addr) (i : Nat) (x : Itm) (g off : Nat) (ra : Option Addr) (rc : Nat) (da : Option Addr) (dc : Nat) : Prop where
  addr : a = some ⟨g, off, none⟩
  lt : g < w.heap.size
  c0 : w.cell? ⟨g, off + i * 6, none⟩ = some (.int .i64 x.kind)
  c1 : w.cell? ⟨g, off + i * 6 + 1, none⟩ = some (.string (strOf x.path))
  c2 : w.cell? ⟨g, off + i * 6 + 2, none⟩ = some (.string (strOf x.target))
  c3 : w.cell? ⟨g, off + i * 6 + 3, none⟩ = some (.int .i64 x.size)
  c4 : w.cell? ⟨g, off + i * 6 + 4, none⟩ = some (.slice ra x.runs.length rc)
  c5 : w.cell? ⟨g, off + i * 6 + 5, none⟩ = some (.slice da x.data.length dc)
  runs : RunsAt w ra x.runs
  data : BytesAt w da x.data
def ItemsAt (w : World) (a : Option Addr) (L : List Itm) : Prop := ∀ i (h : i < L.length), ∃ g off ra rc da dc, ItemAt w a i L[i] g off ra rc da dc
theorem ItemAt.below {w w' : World} {a : Option Addr} {i : Nat} {x : Itm} {g off : Nat} {ra da : Option Addr} {rc dc : Nat} (h : ItemAt w a i x g off ra rc da dc) (hb : Below w.heap.size w w') : ItemAt w' a i x g off ra rc da dc :=
  ⟨h.addr, Nat.lt_of_lt_of_le h.lt hb.size, by rw [hb.cell h.lt]; exact h.c0, by rw [hb.cell h.lt]; exact h.c1, by rw [hb.cell h.lt]; exact h.c2, by rw [hb.cell h.lt]; exact h.c3, by rw [hb.cell h.lt]; exact h.c4, by rw [hb.cell h.lt]; exact h.c5, h.runs.below hb, h.data.below hb⟩
theorem ItemsAt.below {w w' : World} {a : Option Addr} {L : List Itm} (h : ItemsAt w a L) (hb : Below w.heap.size w w') : ItemsAt w' a L := by
  intro i hi
  obtain ⟨g, off, ra, rc, da, dc, h1⟩ := h i hi
  exact ⟨g, off, ra, rc, da, dc, h1.below hb⟩

/-- The first n items' keys rise. -/
def Rising (L : List Itm) (n : Nat) : Prop := ∀ i j (hi : i < L.length) (hj : j < L.length), i < j → j < n → ltB (keyB L[i].path) (keyB L[j].path) = true
/-- Where the search stands. -/
structure FInv (L : List Itm) (n : Nat) (p : List UInt8) (lo hi : Nat) : Prop where
  le : lo ≤ hi
  hn : hi ≤ n
  low : ∀ i (h : i < L.length), i < lo → ltB (keyB L[i].path) (keyB p) = true
  high : ∀ i (h : i < L.length), hi ≤ i → i < n → ltB (keyB L[i].path) (keyB p) = false
theorem FInv.start (L : List Itm) (n : Nat) (p : List UInt8) : FInv L n p 0 n := ⟨by omega, by omega, fun i _ h => by omega, fun i _ h1 h2 => by omega⟩
theorem FInv.up {L : List Itm} {n : Nat} {p : List UInt8} {lo hi m : Nat} (h : FInv L n p lo hi) (hr : Rising L n) (hnL : n ≤ L.length) (h1 : lo ≤ m) (h2 : m < hi) (hk : ltB (keyB (L[m]'(by have := h.hn; omega)).path) (keyB p) = true) : FInv L n p (m + 1) hi := by
  refine ⟨by omega, h.hn, fun i hi' him => ?_, h.high⟩
  by_cases e : i = m
  · subst e; exact hk
  · exact ltB_trans (hr i m hi' _ (by omega) (by have := h.hn; omega)) hk
theorem FInv.down {L : List Itm} {n : Nat} {p : List UInt8} {lo hi m : Nat} (h : FInv L n p lo hi) (hr : Rising L n) (hnL : n ≤ L.length) (h1 : lo ≤ m) (h2 : m < hi) (hk : ltB (keyB (L[m]'(by have := h.hn; omega)).path) (keyB p) = false) : FInv L n p lo m := by
  refine ⟨h1, by have := h.hn; omega, h.low, fun i hi' h3 h4 => ?_⟩
  by_cases e : i = m
  · subst e; exact hk
  · cases hq : ltB (keyB L[i].path) (keyB p) with
    | false => rfl
    | true =>
      have := ltB_trans (hr m i (by omega) hi' (by omega) h4) hq
      rw [hk] at this
      cases this
theorem find_none {L : List Itm} {n : Nat} {p : List UInt8} (h : ∀ i (hi : i < L.length), i < n → L[i].path ≠ p) : kindAt (L.take n) p = 0 := by
  unfold kindAt
  have : (L.take n).find? (fun y => y.path == p) = none := by
    rw [List.find?_eq_none]
    intro y hy
    obtain ⟨i, hi, rfl⟩ := List.getElem_of_mem hy
    rw [List.length_take] at hi
    rw [List.getElem_take]
    simpa using h i (by omega) (by omega)
  rw [this]; rfl
theorem find_some {L : List Itm} {n k : Nat} {p : List UInt8} (hk : k < L.length) (hkn : k < n) (hp : L[k].path = p) (h : ∀ i (hi : i < L.length), i < k → L[i].path ≠ p) : kindAt (L.take n) p = L[k].kind := by
  unfold kindAt
  have : (L.take n).find? (fun y => y.path == p) = some L[k] := by
    rw [List.find?_eq_some_iff_getElem]
    refine ⟨by simpa using hp, k, by rw [List.length_take]; omega, by rw [List.getElem_take], fun j hj => ?_⟩
    rw [List.getElem_take]
    simpa using h j (by omega) hj
  rw [this]; rfl
theorem FInv.found {L : List Itm} {n : Nat} {p : List UInt8} {lo : Nat} (h : FInv L n p lo lo) (hlo : lo < L.length) (hln : lo < n) (hp : L[lo].path = p) : kindAt (L.take n) p = L[lo].kind := by
  refine find_some hlo hln hp fun i hi hil e => ?_
  have := h.low i hi hil
  rw [e, ltB_irrefl] at this
  cases this
theorem FInv.missing {L : List Itm} {n : Nat} {p : List UInt8} {lo : Nat} (h : FInv L n p lo lo) (hr : Rising L n) (hnL : n ≤ L.length) (hp : ∀ (hlo : lo < L.length), lo < n → L[lo].path ≠ p) : kindAt (L.take n) p = 0 := by
  refine find_none fun i hi hin e => ?_
  rcases Nat.lt_trichotomy i lo with h1 | h1 | h1
  · have := h.low i hi h1
    rw [e, ltB_irrefl] at this
    cases this
  · subst h1; exact hp hi hin e
  · have h2 := hr lo i (by omega) hi h1 hin
    rw [e] at h2
    have h3 := h.high lo (by omega) (Nat.le_refl _) (by omega)
    rw [h2] at h3
    cases h3

/-- The sizes of all items' parts. -/
def SizeAll (L : List Itm) : Prop := L.length ≤ 1500000000000 ∧ ∀ x ∈ L, SizeItm x

set_option maxRecDepth 100000 in
set_option maxHeartbeats 2000000 in
theorem find_walk (L : List Itm) (a : Option Addr) (c n : Nat) (s : ByteArray) (w : World) (h : ItemsAt w a L) (hs : SizeAll L) (hn : n ≤ L.length) (hr : Rising L n) (hss : s.size ≤ maxLen) :
    Calls Tryd.prog 41 #[.slice a L.length c, .int .i64 n, .string s] w fun e w' => e = .returned (.int .i64 (kindAt (L.take n) (bytes s))) ∧ Below w.heap.size w w' := by
  have H := Lib.hid h
  have HS := Lib.hid hs.2
  have hLn := hs.1
  have HR := Lib.hid hr
  have HK := Lib.hid (fun w => key_walk s w hss)
  clear h hs hr hss
  go_enter Tryd.func41, Tryd.ntmps41
  go_wp2_with (go_at_call 40; refine (HK.out _).mono ?_)
  rintro e w1 ⟨rfl, hb1⟩
  have HB1 := Lib.hid hb1
  clear hb1
  generalize hks : strOf (keyB (bytes s)) = ks at *
  have HKS := Lib.hid hks
  clear hks
  go_wp2
  go_loopw [7, 8, 10] (fun v7 v8 _ wr => ∃ lo hi : Nat, v7 = .int .i64 lo ∧ v8 = .int .i64 hi ∧ FInv L n (bytes s) lo hi ∧ Below w.heap.size w wr) (fun v7 v8 _ _ => (intOf v8).toNat - (intOf v7).toNat)
  case atStart => exact ⟨0, n, rfl, rfl, FInv.start _ _ _, HB1.out⟩
  case round =>
    obtain ⟨lo, hi, rfl, rfl, hinv, hb⟩ := hrel
    have HI := Lib.hid hinv
    have HB := Lib.hid hb
    have hle := hinv.le
    have hhn := hinv.hn
    clear hinv hb
    by_cases hlt : lo < hi
    · obtain ⟨m, hm⟩ : ∃ m : Nat, m = (lo + hi) / 2 := ⟨_, rfl⟩
      have hm1 : lo ≤ m := by omega
      have hm2 : m < hi := by omega
      have hmm : ((lo : Int) + (hi : Int)) / 2 = (m : Int) := by omega
      have hmL : m < L.length := by omega
      obtain ⟨g, off, ra, rc, da, dc, hit⟩ := (H.out.below HB.out) m hmL
      have e := hit.addr
      subst e
      have hc := hit.c1
      have HSZ := HS.out L[m] (List.getElem_mem hmL)
      have HK2 := Lib.hid (fun w => key_walk (strOf L[m].path) w (by have := HSZ.path; rw [strOf_size]; exact this))
      have HBL := Lib.hid (show Op.bytesLess (strOf (keyB L[m].path)).toList ks.toList = ltB (keyB L[m].path) (keyB (bytes s)) by
        rw [← HKS.out, ByteArray.toList_eq, ByteArray.toList_eq, bytesLess_ltB]; rfl)
      rw [show bytes (strOf L[m].path) = L[m].path from rfl] at HK2
      have HUP := Lib.hid (HI.out.up HR.out hn hm1 hm2)
      have HDN := Lib.hid (HI.out.down HR.out hn hm1 hm2)
      clear hm hit HSZ
      generalize strOf (keyB L[m].path) = km at *
      generalize strOf L[m].path = pm at *
      cases hq : ltB (keyB L[m].path) (keyB (bytes s))
      · have HD := Lib.hid (HDN.out hq)
        rw [hq] at HBL
        have hbl := HBL.out
        clear hq
        go_wp2_with (go_at_call 40; refine (HK2.out _).mono ?_)
        rintro e w2 ⟨rfl, hb2⟩
        have HB2 := Lib.hid (HB.out.trans (hb2.mono HB.out.size))
        clear hb2
        go_wp2
        go_roundw
        case rel => exact ⟨lo, m, by go_num, by go_num, HD.out, HB2.out⟩
        case measure => simp [intOf]; omega
      · have HD := Lib.hid (HUP.out hq)
        rw [hq] at HBL
        have hbl := HBL.out
        clear hq
        go_wp2_with (go_at_call 40; refine (HK2.out _).mono ?_)
        rintro e w2 ⟨rfl, hb2⟩
        have HB2 := Lib.hid (HB.out.trans (hb2.mono HB.out.size))
        clear hb2
        go_wp2
        go_roundw
        case rel => exact ⟨m + 1, hi, by go_num, by go_num, HD.out, HB2.out⟩
        case measure => simp [intOf]; omega
    · obtain rfl : lo = hi := by omega
      by_cases hln : lo < n
      · have hlL : lo < L.length := by omega
        obtain ⟨g, off, ra, rc, da, dc, hit⟩ := (H.out.below HB.out) lo hlL
        have e := hit.addr
        subst e
        have hc0 := hit.c0
        have hc1 := hit.c1
        by_cases hp : L[lo].path = bytes s
        · have HF := Lib.hid (HI.out.found hlL hln hp)
          have heq : ((strOf L[lo].path).toList == s.toList) = true := by rw [ByteArray.toList_eq, ByteArray.toList_eq, beq_iff_eq]; exact hp
          clear hit hp
          generalize strOf L[lo].path = pl at *
          generalize L[lo].kind = kd at *
          go_wp2
          go_ret
          exact ⟨by rw [HF.out]; rfl, HB.out⟩
        · have HF := Lib.hid (HI.out.missing HR.out hn (fun _ _ => hp))
          have heq : ((strOf L[lo].path).toList == s.toList) = false := by rw [ByteArray.toList_eq, ByteArray.toList_eq, beq_eq_false_iff_ne]; exact hp
          clear hit hp
          generalize strOf L[lo].path = pl at *
          generalize L[lo].kind = kd at *
          go_wp2
          go_ret
          exact ⟨by rw [HF.out]; rfl, HB.out⟩
      · have HF := Lib.hid (HI.out.missing HR.out hn (fun _ h => absurd h hln))
        go_wp2
        go_ret
        exact ⟨by rw [HF.out]; rfl, HB.out⟩
end Go.Proofs.YtenpihkfghfpaaaDoor
