/- HeapSets: the law's own walk. -/
import Derived.Test.YtodiemichniehaaDone
namespace Go.Proofs.Ytodiemichniehaa
open Go.RowKit Go.Kx Go.Maps
set_option maxRecDepth 100000

theorem getM_cons {x : Ent} {l : List Ent} {k : Int} (h : x.1 ≠ k) : getM (x :: l) k = getM l k := by
  unfold getM
  rw [List.find?_cons_of_neg (by simpa using h)]
theorem getM_del_other {j k : Int} (h : j ≠ k) : ∀ m : List Ent, getM (delM m j) k = getM m k
  | [] => rfl
  | x :: m => by
    have ih := getM_del_other h m
    by_cases hj : x.1 = j
    · have e : delM (x :: m) j = delM m j := by
        unfold delM
        rw [List.filter_cons_of_neg (by simpa using hj)]
      rw [e, ih, getM_cons (by rw [hj]; exact h)]
    · have e : delM (x :: m) j = x :: delM m j := by
        unfold delM
        rw [List.filter_cons_of_pos (by simpa using hj)]
      rw [e]
      by_cases hk : x.1 = k
      · unfold getM
        rw [List.find?_cons_of_pos (by simpa using hk), List.find?_cons_of_pos (by simpa using hk)]
      · rw [getM_cons hk, getM_cons hk, ih]
theorem getM_set_other {m : List Ent} (hn : (m.map (·.1)).Nodup) {x : Ent} {k : Int} (h : x.1 ≠ k) : getM (setM m x) k = getM m k := by
  have h1 : (setM m x).Perm (x :: delM m x.1) := insM_perm x (delM m x.1)
  rw [getM_perm (nd_setM hn x) h1, getM_cons h, getM_del_other h]
theorem getM_set_same {m : List Ent} (hn : (m.map (·.1)).Nodup) (x : Ent) : getM (setM m x) x.1 = some x.2 := by
  have h1 : (setM m x).Perm (x :: delM m x.1) := insM_perm x (delM m x.1)
  rw [getM_perm (nd_setM hn x) h1]
  unfold getM
  rw [List.find?_cons_of_pos (by simp)]
  rfl
theorem hasM_get {m : List Ent} {k b : Int} (h : getM m k = some b) : hasM m k = true := by
  cases hh : hasM m k with
  | true => rfl
  | false => rw [getM_none hh] at h; cases h
theorem hasM_del (m : List Ent) (k : Int) : hasM (delM m k) k = false := by
  unfold hasM
  rw [List.any_eq_false]
  intro e he
  simpa using (delM_mem he).2
theorem getM_do {m : List Ent} (hn : (m.map (·.1)).Nodup) {a : Ac} {k : Int} (h6 : a.1 % 8 ≠ 6) (hk : a.2.1 ≠ k) : getM (doM m a) k = getM m k := by
  unfold doM
  split
  · exact getM_set_other hn hk
  · split
    · exact getM_del_other hk m
    · rfl

theorem sets_many {A : Option Addr} {cap : Nat} {L : List Ac} {k x : Int} {w : World} (hl : 200 < L.length) (hlen : L.length ≤ 9223372036854775807) :
    Calls Try.prog 4 #[.slice A L.length cap, .int .i64 k, .int .i64 x] w fun e w' => e = .returned (.bool true) ∧ Only [] w w' := by
  have hg : decide ((200 : Int) < (L.length : Int)) = true := by simp; omega
  go_enter Try.func4, Try.ntmps4
  go_wp2_with (fail)
  refine (awake_any _).mono ?_
  rintro e w1 ⟨rfl, o1⟩
  go_wp2_with (fail)
  refine (awake_any _).mono ?_
  rintro e w2 ⟨rfl, o2⟩
  go_wp2_with (fail)
  go_ret
  exact ⟨rfl, o1.trans o2 (by simp)⟩
set_option maxHeartbeats 2000000 in
theorem sets_few {A : Option Addr} {cap : Nat} {L : List Ac} {k x : Int} {w : World} (hL : Acs w A L) (hl : L.length ≤ 200) (hk : I64 k) (hx : I64 x) :
    Calls Try.prog 4 #[.slice A L.length cap, .int .i64 k, .int .i64 x] w fun e w' => e = .returned (.bool true) ∧ Only [] w w' := by
  have hg : decide ((200 : Int) < (L.length : Int)) = false := by simp; omega
  have HL := Lib.hid hL
  clear hL
  go_enter Try.func4, Try.ntmps4
  go_wp2_with (fail)
  refine (awake_any _).mono ?_
  rintro e w1 ⟨rfl, o1⟩
  have HO1 := Lib.hid o1
  have hs1 := o1.size
  clear o1
  go_wp2_with (fail)
  refine (new_some w1).mono ?_
  rintro e w2 ⟨rfl, h2, o2⟩
  have hb2 : w1.heap.size + 1 ≤ w2.heap.size := by have := h2.blk.lt; omega
  have t2 := set_any h2 HS.nil (k := k) (x := x) hk hx (by decide) hb2
  have f2 := h2.fresh (B0 := w.heap.size) (by omega) (by omega)
  have HO2 := Lib.hid (HO1.out.trans o2 (by simp))
  clear h2 o2 HO1
  go_wp2_with (fail)
  refine t2.mono ?_
  clear t2
  rintro e w3 ⟨rfl, L3, A3, c3, h3, s3, o3, -⟩
  have g3 : getM (setM [] (k, x)) k = some x := getM_set_same (m := []) (by simp) (k, x)
  have l3 : (setM [] (k, x)).length = 1 := rfl
  have HH3 := Lib.hid h3
  have HO3 := Lib.hid (HO2.out.trans o3 f2)
  have hb3 : w1.heap.size + 1 ≤ w3.heap.size := Nat.le_trans hb2 o3.size
  obtain ⟨g, hgd⟩ : ∃ g, w1.heap.size + 1 = g := ⟨_, rfl⟩
  obtain ⟨bm, hbd⟩ : ∃ bm, w1.heap.size = bm := ⟨_, rfl⟩
  have hgl : w.heap.size ≤ g := by omega
  have hbl : w.heap.size ≤ bm := by omega
  rw [hgd, hbd] at HH3
  rw [hgd] at hb3 ⊢
  clear h3 o3 HO2 f2 hb2 hgd hbd hs1
  go_wp2_with (fail)
  go_loopw [8, 9] (fun v u wr => ∃ (i : Nat) (L1 : List Ent) (A1 : Option Addr) (c1 : Nat) (m : List Ent), v = .bool true ∧ u = .int .i64 i ∧ i ≤ L.length ∧ m.length ≤ i + 1 ∧ HB g wr g (some bm) L1 A1 c1 ∧ HS L1 m ∧ getM m k = some x ∧ Only [] w wr ∧ g ≤ wr.heap.size) (fun _ u _ => L.length - (intOf u).toNat)
  case atStart => exact ⟨0, L3, A3, c3, _, rfl, rfl, Nat.zero_le _, by rw [l3]; exact Nat.le_refl _, HH3.out, s3, g3, HO3.out, hb3⟩
  case round =>
    clear HH3 HO3 hb3 s3 g3 l3
    obtain ⟨i, L1, A1, c1, m, rfl, rfl, hi, hm, hH, hS, hG, hO, hB⟩ := hrel
    have hL1 : L1.length = m.length := hS.length
    by_cases hlt : i < L.length
    · obtain ⟨⟨⟨hd0, hd1⟩, hka, hxa⟩, b, o, rfl, hb, c0, c1', c2⟩ := (HL.out.only hO) i L[i] (List.getElem?_eq_getElem hlt)
      generalize L[i] = q at hd0 hd1 hka hxa c0 c1' c2
      obtain ⟨d, j, y⟩ := q
      dsimp only at hd0 hd1 hka hxa c0 c1' c2
      have iz0 : (0 : Int) ≤ (i : Int) := by omega
      have iz1 : (i : Int) < (L.length : Int) := by omega
      have o0 : Only [] wr (wr.alloc (.cells #[.int .u8 d, .int .i64 j, .int .i64 y] 29)) := (Only.refl [] wr).alloc _
      have h0 := hH.keep o0
      have HH := Lib.hid h0
      have HO := Lib.hid (hO.trans o0 (by simp))
      have HB0 := Lib.hid (Nat.le_trans hB o0.size)
      have hbn := Blk.new wr 29 #[.int .u8 d, .int .i64 j, .int .i64 y]
      obtain ⟨x0, x1, x2, xl⟩ := hbn.facts3
      by_cases h6 : d % 8 = 6
      · clear h0 hO hH o0 hbn hb hB
        go_wp2_with (fail)
        go_roundw
        case rel => exact ⟨i + 1, L1, A1, c1, m, rfl, by go_num, by omega, by omega, HH.out, hS, hG, HO.out, HB0.out⟩
        case measure => simp [intOf]; omega
      · by_cases hjk : j = k
        · have hjb : (j == k) = true := by simpa using hjk
          clear h0 hO hH o0 hbn hb hB hjk
          go_wp2_with (fail)
          go_roundw
          case rel => exact ⟨i + 1, L1, A1, c1, m, rfl, by go_num, by omega, by omega, HH.out, hS, hG, HO.out, HB0.out⟩
          case measure => simp [intOf]; omega
        · have hjb : (j == k) = false := by simpa using hjk
          have t := done_any h0 hS (a := (d, j, y)) ⟨⟨hd0, hd1⟩, hka, hxa⟩ (by omega) HB0.out
          have f := h0.fresh (B0 := w.heap.size) hgl hbl
          have hG2 := getM_do hS.nd (a := (d, j, y)) (k := k) h6 hjk
          have hle := doM_le m (d, j, y)
          rw [hG] at hG2
          clear h0 hO hH o0 hbn hb hB HH
          go_wp2_with (fail)
          refine t.mono ?_
          clear t c0 c1' c2 x0 x1 x2 xl
          rintro e w4 ⟨rfl, L4, A4, c4, h4, s4, o4⟩
          have t4 := get_any h4 s4 hk
          rw [hG2, hasM_get hG2] at t4
          have HH4 := Lib.hid h4
          have HO4 := Lib.hid (HO.out.trans o4 f)
          have HB4 := Lib.hid (Nat.le_trans HB0.out o4.size)
          clear h4 o4 f HO
          go_wp2_with (fail)
          refine t4.mono ?_
          clear t4
          rintro e w5 ⟨rfl, o5⟩
          have HH5 := Lib.hid (HH4.out.keep o5)
          have HO5 := Lib.hid (HO4.out.trans o5 (by simp))
          have HB5 := Lib.hid (Nat.le_trans HB4.out o5.size)
          clear o5 HH4 HO4
          go_wp2_with (fail)
          go_roundw
          case rel => exact ⟨i + 1, L4, A4, c4, _, rfl, by go_num, by omega, by omega, HH5.out, s4, hG2, HO5.out, HB5.out⟩
          case measure => simp [intOf]; omega
    · have iz1 : ¬ (i : Int) < (L.length : Int) := by omega
      have t := del_any hH hS hk (by omega)
      have f := hH.fresh (B0 := w.heap.size) hgl hbl
      rw [hasM_get hG] at t
      have HO := Lib.hid hO
      clear hH hO
      go_wp2_with (fail)
      refine t.mono ?_
      clear t
      rintro e w4 ⟨rfl, L4, h4, s4, o4⟩
      have hle := delM_le m k
      have hL4 : L4.length = (delM m k).length := s4.length
      have t4 := del_any h4 s4 hk (by omega)
      rw [hasM_del] at t4
      have f4 := h4.fresh (B0 := w.heap.size) hgl hbl
      have HO4 := Lib.hid (HO.out.trans o4 f)
      clear h4 o4 f HO
      go_wp2_with (fail)
      refine t4.mono ?_
      clear t4
      rintro e w5 ⟨rfl, L5, h5, s5, o5⟩
      have HO5 := Lib.hid (HO4.out.trans o5 f4)
      clear o5 h5 f4
      go_wp2_with (fail)
      go_ret
      exact ⟨rfl, HO5.out⟩
theorem heapsets_any {A : Option Addr} {cap : Nat} {L : List Ac} {k x : Int} {w : World} (hL : Acs w A L) (hlen : L.length ≤ 9223372036854775807) (hk : I64 k) (hx : I64 x) :
    Calls Try.prog 4 #[.slice A L.length cap, .int .i64 k, .int .i64 x] w fun e w' => e = .returned (.bool true) ∧ Only [] w w' := by
  by_cases hl : 200 < L.length
  · exact sets_many hl hlen
  · exact sets_few hL (by omega) hk hx
end Go.Proofs.Ytodiemichniehaa
