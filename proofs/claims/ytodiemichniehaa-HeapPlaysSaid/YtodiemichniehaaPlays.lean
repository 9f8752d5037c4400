/- HeapPlays: the law's own walk. -/
import Derived.Test.YtodiemichniehaaSets
namespace Go.Proofs.Ytodiemichniehaa
open Go.RowKit Go.Kx Go.Maps
set_option maxRecDepth 100000

theorem own_le {w : World} {base sz n c : Nat} {A : Option Addr} {t : TypeId} {xs : List Value} (h : w.ownsRow base t sz (.slice A n c) n xs) : n ≤ c := by
  rcases h.2 with ⟨h1, h2⟩ | ⟨g, cap, cur, h1, _, _, h3, _⟩
  · omega
  · injection h1 with _ _ h1
    omega
theorem eq_33 (a b c d : Int) (W : World) : (binOp .eql 33 (.agg #[.int .i64 a, .int .i64 b]) (.agg #[.int .i64 c, .int .i64 d])).run Try.prog W = .ok (.bool (decide (a = c ∧ b = d))) W := by
  by_cases h : a = c <;> by_cases h2 : b = d <;> simp [go_sem, h, h2]
theorem eq_33T (a b : Int) (W : World) : (binOp .eql 33 (.agg #[.int .i64 a, .int .i64 b]) (.agg #[.int .i64 a, .int .i64 b])).run Try.prog W = .ok (.bool true) W := by
  rw [eq_33, decide_eq_true ⟨rfl, rfl⟩]
theorem setM_le (m : List Ent) (x : Ent) : (setM m x).length ≤ m.length + 1 := by
  unfold setM
  rw [insM_length]
  have := delM_le m x.1
  omega
theorem heap_old {B : Nat} {w : World} {g bm : Nat} {L : List Ent} {A : Option Addr} {c : Nat} (hH : HB B w g (some bm) L A c) : ∀ x ∈ heapS g A (some bm), x < w.heap.size := fun x hx => by
  have g1 := hH.blk.lt
  have b1 := (hH.map bm rfl).lt
  simp at hx
  rcases hx with h | ⟨p, hp, h⟩ | h
  · omega
  · have := (hH.own.lt p.block (by rw [hp]; rfl)).2
    omega
  · omega

theorem plays_many {A : Option Addr} {cap : Nat} {L : List Ac} {w : World} (hl : 200 < L.length) (hlen : L.length ≤ 9223372036854775807) :
    Calls Try.prog 3 #[.slice A L.length cap] w fun e w' => e = .returned (.bool true) ∧ Only [] w w' := by
  have hg : decide ((200 : Int) < (L.length : Int)) = true := by simp; omega
  go_enter Try.func3, Try.ntmps3
  go_wp2_with (fail)
  refine (awake_any _).mono ?_
  rintro e w1 ⟨rfl, o1⟩
  go_wp2_with (fail)
  refine (awake_any _).mono ?_
  rintro e w2 ⟨rfl, o2⟩
  go_wp2_with (fail)
  go_ret
  exact ⟨rfl, o1.trans o2 (by simp)⟩
set_option maxHeartbeats 4000000 in
theorem plays_few {A : Option Addr} {cap : Nat} {L : List Ac} {w : World} (hL : Acs w A L) (hl : L.length ≤ 200) :
    Calls Try.prog 3 #[.slice A L.length cap] w fun e w' => e = .returned (.bool true) ∧ Only [] w w' := by
  have hg : decide ((200 : Int) < (L.length : Int)) = false := by simp; omega
  have HL := Lib.hid hL
  clear hL
  go_enter Try.func3, Try.ntmps3
  go_wp2_with (fail)
  refine (awake_any _).mono ?_
  rintro e w1 ⟨rfl, o1⟩
  have HO1 := Lib.hid o1
  have hs1 := o1.size
  clear o1
  go_wp2_with (fail)
  refine (new_some w1).mono ?_
  rintro e w2 ⟨rfl, h2, o2⟩
  have hb2 : w1.heap.size + 1 ≤ w2.heap.size := by have := h2.blk.lt; omega
  have HO2 := Lib.hid (HO1.out.trans o2 (by simp))
  obtain ⟨g, hgd⟩ : ∃ g, w1.heap.size + 1 = g := ⟨_, rfl⟩
  obtain ⟨bm, hbd⟩ : ∃ bm, w1.heap.size = bm := ⟨_, rfl⟩
  have hgl : w.heap.size ≤ g := by omega
  have hbl : w.heap.size ≤ bm := by omega
  rw [hgd, hbd] at h2
  rw [hgd] at hb2 ⊢
  have HH2 := Lib.hid h2
  clear h2 o2 HO1 hgd hbd hs1
  go_wp2_with (fail)
  go_loopw [4, 5] (fun v u wr => ∃ (i : Nat) (L1 : List Ent) (A1 : Option Addr) (c1 : Nat) (m : List Ent) (Am : Option Addr) (cm : Nat), v = .slice Am m.length cm ∧ u = .int .i64 i ∧ i ≤ L.length ∧ m.length ≤ i ∧ m.length ≤ cm ∧ HB g wr g (some bm) L1 A1 c1 ∧ HS L1 m ∧ Row2 wr w.heap.size Am m ∧ Only [] w wr ∧ g ≤ wr.heap.size) (fun _ u _ => L.length - (intOf u).toNat)
  case atStart => exact ⟨0, [], none, 0, [], none, 0, rfl, rfl, Nat.zero_le _, Nat.le_refl _, Nat.le_refl _, HH2.out, HS.nil, .inl rfl, HO2.out, hb2⟩
  case round =>
    clear HH2 HO2 hb2
    obtain ⟨i, L1, A1, c1, m, Am, cm, rfl, rfl, hi, hm, hmc, hH, hS, hR, hO, hB⟩ := hrel
    have hL1 : L1.length = m.length := hS.length
    by_cases hlt : i < L.length
    · obtain ⟨⟨⟨hd0, hd1⟩, hka, hxa⟩, b, o, rfl, hb, c0, c1', c2⟩ := (HL.out.only hO) i L[i] (List.getElem?_eq_getElem hlt)
      generalize L[i] = q at hd0 hd1 hka hxa c0 c1' c2
      obtain ⟨d, k, x⟩ := q
      dsimp only at hd0 hd1 hka hxa c0 c1' c2
      have iz0 : (0 : Int) ≤ (i : Int) := by omega
      have iz1 : (i : Int) < (L.length : Int) := by omega
      have o0 : Only [] wr (wr.alloc (.cells #[.int .u8 d, .int .i64 k, .int .i64 x] 29)) := (Only.refl [] wr).alloc _
      have h0 := hH.keep o0
      have HO := Lib.hid (hO.trans o0 (by simp))
      have HB0 := Lib.hid (Nat.le_trans hB o0.size)
      have HR := Lib.hid (hR.keep o0)
      have hbn := Blk.new wr 29 #[.int .u8 d, .int .i64 k, .int .i64 x]
      have HX := Lib.hid hbn
      have hxn : wr.heap.size ∉ heapS g A1 (some bm) := fun h => Nat.lt_irrefl _ (heap_old hH _ h)
      obtain ⟨x0, x1, x2, xl⟩ := hbn.facts3
      have f := h0.fresh (B0 := w.heap.size) hgl hbl
      have hE := eq_33T
      clear hO hH o0 hbn hb hB hR
      rcases (show d % 8 = 0 ∨ d % 8 = 1 ∨ d % 8 = 2 ∨ d % 8 = 3 ∨ d % 8 = 4 ∨ d % 8 = 5 ∨ d % 8 = 6 ∨ d % 8 = 7 by omega) with h8 | h8 | h8 | h8 | h8 | h8 | h8 | h8
      · as_aux_lemma =>
        have t := set_any h0 hS hka hxa (by omega) HB0.out
        have HH0 := Lib.hid h0
        clear h0
        go_wp2_with (fail)
        refine t.mono ?_
        clear t x0 x1 x2 xl c0 c1' c2
        rintro e w4 ⟨rfl, L4, A4, c4, h4, s4, o4, -⟩
        have hX4 := o4.blk HX.out hxn
        obtain ⟨x0, x1, x2, xl⟩ := hX4.facts3
        have R4 := HH0.out.row2 HR.out o4
        have t4 := refset_any (c := cm) R4 (k, x) (by omega)
        have l4 : L4.length = (setM m (k, x)).length := s4.length
        have lm := setM_le m (k, x)
        have HH4 := Lib.hid h4
        have HO4 := Lib.hid (HO.out.trans o4 f)
        have HB4 := Lib.hid (Nat.le_trans HB0.out o4.size)
        have hz4 : w.heap.size ≤ w4.heap.size := HO4.out.size
        clear hX4 R4 h4 o4 HO HB0 f HR HX HH0
        go_wp2_with (fail)
        refine t4.mono ?_
        clear t4 x0 x1 x2 xl
        rintro e w5 ⟨A5, c5, rfl, W5, o5⟩
        have hc5 := own_le W5
        have t6 := len_any (HH4.out.keep o5)
        have HH5 := Lib.hid (HH4.out.keep o5)
        have HO5 := Lib.hid (HO4.out.trans o5 (by simp))
        have HB5 := Lib.hid (Nat.le_trans HB4.out o5.size)
        have HR5 := Lib.hid ((own_row2 rfl W5).base hz4)
        rw [l4] at t6
        clear W5 o5 HH4 HO4 HB4
        go_wp2_with (fail)
        refine t6.mono ?_
        clear t6
        rintro e w6 ⟨rfl, o6⟩
        have HH6 := Lib.hid (HH5.out.keep o6)
        have HO6 := Lib.hid (HO5.out.trans o6 (by simp))
        have HB6 := Lib.hid (Nat.le_trans HB5.out o6.size)
        have HR6 := Lib.hid (HR5.out.keep o6)
        clear o6 HH5 HO5 HB5 HR5
        go_wp2_with (fail)
        go_roundw
        case rel => exact ⟨i + 1, L4, A4, c4, _, A5, c5, rfl, by go_num, by omega, by omega, hc5, HH6.out, s4, HR6.out, HO6.out, HB6.out⟩
        case measure => simp [intOf]; omega
      · as_aux_lemma =>
        have t := set_any h0 hS hka hxa (by omega) HB0.out
        have HH0 := Lib.hid h0
        clear h0
        go_wp2_with (fail)
        refine t.mono ?_
        clear t x0 x1 x2 xl c0 c1' c2
        rintro e w4 ⟨rfl, L4, A4, c4, h4, s4, o4, -⟩
        have hX4 := o4.blk HX.out hxn
        obtain ⟨x0, x1, x2, xl⟩ := hX4.facts3
        have R4 := HH0.out.row2 HR.out o4
        have t4 := refset_any (c := cm) R4 (k, x) (by omega)
        have l4 : L4.length = (setM m (k, x)).length := s4.length
        have lm := setM_le m (k, x)
        have HH4 := Lib.hid h4
        have HO4 := Lib.hid (HO.out.trans o4 f)
        have HB4 := Lib.hid (Nat.le_trans HB0.out o4.size)
        have hz4 : w.heap.size ≤ w4.heap.size := HO4.out.size
        clear hX4 R4 h4 o4 HO HB0 f HR HX HH0
        go_wp2_with (fail)
        refine t4.mono ?_
        clear t4 x0 x1 x2 xl
        rintro e w5 ⟨A5, c5, rfl, W5, o5⟩
        have hc5 := own_le W5
        have t6 := len_any (HH4.out.keep o5)
        have HH5 := Lib.hid (HH4.out.keep o5)
        have HO5 := Lib.hid (HO4.out.trans o5 (by simp))
        have HB5 := Lib.hid (Nat.le_trans HB4.out o5.size)
        have HR5 := Lib.hid ((own_row2 rfl W5).base hz4)
        rw [l4] at t6
        clear W5 o5 HH4 HO4 HB4
        go_wp2_with (fail)
        refine t6.mono ?_
        clear t6
        rintro e w6 ⟨rfl, o6⟩
        have HH6 := Lib.hid (HH5.out.keep o6)
        have HO6 := Lib.hid (HO5.out.trans o6 (by simp))
        have HB6 := Lib.hid (Nat.le_trans HB5.out o6.size)
        have HR6 := Lib.hid (HR5.out.keep o6)
        clear o6 HH5 HO5 HB5 HR5
        go_wp2_with (fail)
        go_roundw
        case rel => exact ⟨i + 1, L4, A4, c4, _, A5, c5, rfl, by go_num, by omega, by omega, hc5, HH6.out, s4, HR6.out, HO6.out, HB6.out⟩
        case measure => simp [intOf]; omega
      · as_aux_lemma =>
        have t := set_any h0 hS hka hxa (by omega) HB0.out
        have HH0 := Lib.hid h0
        clear h0
        go_wp2_with (fail)
        refine t.mono ?_
        clear t x0 x1 x2 xl c0 c1' c2
        rintro e w4 ⟨rfl, L4, A4, c4, h4, s4, o4, -⟩
        have hX4 := o4.blk HX.out hxn
        obtain ⟨x0, x1, x2, xl⟩ := hX4.facts3
        have R4 := HH0.out.row2 HR.out o4
        have t4 := refset_any (c := cm) R4 (k, x) (by omega)
        have l4 : L4.length = (setM m (k, x)).length := s4.length
        have lm := setM_le m (k, x)
        have HH4 := Lib.hid h4
        have HO4 := Lib.hid (HO.out.trans o4 f)
        have HB4 := Lib.hid (Nat.le_trans HB0.out o4.size)
        have hz4 : w.heap.size ≤ w4.heap.size := HO4.out.size
        clear hX4 R4 h4 o4 HO HB0 f HR HX HH0
        go_wp2_with (fail)
        refine t4.mono ?_
        clear t4 x0 x1 x2 xl
        rintro e w5 ⟨A5, c5, rfl, W5, o5⟩
        have hc5 := own_le W5
        have t6 := len_any (HH4.out.keep o5)
        have HH5 := Lib.hid (HH4.out.keep o5)
        have HO5 := Lib.hid (HO4.out.trans o5 (by simp))
        have HB5 := Lib.hid (Nat.le_trans HB4.out o5.size)
        have HR5 := Lib.hid ((own_row2 rfl W5).base hz4)
        rw [l4] at t6
        clear W5 o5 HH4 HO4 HB4
        go_wp2_with (fail)
        refine t6.mono ?_
        clear t6
        rintro e w6 ⟨rfl, o6⟩
        have HH6 := Lib.hid (HH5.out.keep o6)
        have HO6 := Lib.hid (HO5.out.trans o6 (by simp))
        have HB6 := Lib.hid (Nat.le_trans HB5.out o6.size)
        have HR6 := Lib.hid (HR5.out.keep o6)
        clear o6 HH5 HO5 HB5 HR5
        go_wp2_with (fail)
        go_roundw
        case rel => exact ⟨i + 1, L4, A4, c4, _, A5, c5, rfl, by go_num, by omega, by omega, hc5, HH6.out, s4, HR6.out, HO6.out, HB6.out⟩
        case measure => simp [intOf]; omega
      · as_aux_lemma =>
        have t := set_any h0 hS hka hxa (by omega) HB0.out
        have HH0 := Lib.hid h0
        clear h0
        go_wp2_with (fail)
        refine t.mono ?_
        clear t x0 x1 x2 xl c0 c1' c2
        rintro e w4 ⟨rfl, L4, A4, c4, h4, s4, o4, -⟩
        have hX4 := o4.blk HX.out hxn
        obtain ⟨x0, x1, x2, xl⟩ := hX4.facts3
        have R4 := HH0.out.row2 HR.out o4
        have t4 := refset_any (c := cm) R4 (k, x) (by omega)
        have l4 : L4.length = (setM m (k, x)).length := s4.length
        have lm := setM_le m (k, x)
        have HH4 := Lib.hid h4
        have HO4 := Lib.hid (HO.out.trans o4 f)
        have HB4 := Lib.hid (Nat.le_trans HB0.out o4.size)
        have hz4 : w.heap.size ≤ w4.heap.size := HO4.out.size
        clear hX4 R4 h4 o4 HO HB0 f HR HX HH0
        go_wp2_with (fail)
        refine t4.mono ?_
        clear t4 x0 x1 x2 xl
        rintro e w5 ⟨A5, c5, rfl, W5, o5⟩
        have hc5 := own_le W5
        have t6 := len_any (HH4.out.keep o5)
        have HH5 := Lib.hid (HH4.out.keep o5)
        have HO5 := Lib.hid (HO4.out.trans o5 (by simp))
        have HB5 := Lib.hid (Nat.le_trans HB4.out o5.size)
        have HR5 := Lib.hid ((own_row2 rfl W5).base hz4)
        rw [l4] at t6
        clear W5 o5 HH4 HO4 HB4
        go_wp2_with (fail)
        refine t6.mono ?_
        clear t6
        rintro e w6 ⟨rfl, o6⟩
        have HH6 := Lib.hid (HH5.out.keep o6)
        have HO6 := Lib.hid (HO5.out.trans o6 (by simp))
        have HB6 := Lib.hid (Nat.le_trans HB5.out o6.size)
        have HR6 := Lib.hid (HR5.out.keep o6)
        clear o6 HH5 HO5 HB5 HR5
        go_wp2_with (fail)
        go_roundw
        case rel => exact ⟨i + 1, L4, A4, c4, _, A5, c5, rfl, by go_num, by omega, by omega, hc5, HH6.out, s4, HR6.out, HO6.out, HB6.out⟩
        case measure => simp [intOf]; omega
      · as_aux_lemma =>
        have t := refdel_any (c := cm) HR.out k (by omega)
        have HH0 := Lib.hid h0
        clear h0
        go_wp2_with (fail)
        refine t.mono ?_
        clear t x0 x1 x2 xl c0 c1' c2
        rintro e w4 ⟨A4, c4, rfl, W4, o4⟩
        have hX4 := o4.blk HX.out (by simp)
        obtain ⟨x0, x1, x2, xl⟩ := hX4.facts3
        have hc4 := own_le W4
        have h4 := HH0.out.keep o4
        have t4 := del_any h4 hS hka (by omega)
        have f4 := h4.fresh (B0 := w.heap.size) hgl hbl
        have HH4 := Lib.hid h4
        have HO4 := Lib.hid (HO.out.trans o4 (by simp))
        have HB4 := Lib.hid (Nat.le_trans HB0.out o4.size)
        have hz4 : w.heap.size ≤ (wr.alloc (.cells #[.int .u8 d, .int .i64 k, .int .i64 x] 29)).heap.size := HO.out.size
        have HR4 := Lib.hid ((own_row2 rfl W4).base hz4)
        have lm := delM_le m k
        clear hX4 h4 o4 HO HB0 f HR HX HH0 W4
        go_wp2_with (fail)
        refine t4.mono ?_
        clear t4 x0 x1 x2 xl
        rintro e w5 ⟨rfl, L5, h5, s5, o5⟩
        have l5 : L5.length = (delM m k).length := s5.length
        have t6 := len_any h5
        have HH5 := Lib.hid h5
        have HO5 := Lib.hid (HO4.out.trans o5 f4)
        have HB5 := Lib.hid (Nat.le_trans HB4.out o5.size)
        have HR5 := Lib.hid (HH4.out.row2 HR4.out o5)
        rw [l5] at t6
        clear h5 o5 HH4 HO4 HB4 HR4 f4
        go_wp2_with (fail)
        refine t6.mono ?_
        clear t6
        rintro e w6 ⟨rfl, o6⟩
        have HH6 := Lib.hid (HH5.out.keep o6)
        have HO6 := Lib.hid (HO5.out.trans o6 (by simp))
        have HB6 := Lib.hid (Nat.le_trans HB5.out o6.size)
        have HR6 := Lib.hid (HR5.out.keep o6)
        clear o6 HH5 HO5 HB5 HR5
        go_wp2_with (fail)
        go_roundw
        case rel => exact ⟨i + 1, L5, A1, c1, _, A4, c4, rfl, by go_num, by omega, by omega, hc4, HH6.out, s5, HR6.out, HO6.out, HB6.out⟩
        case measure => simp [intOf]; omega
      · as_aux_lemma =>
        have t := get_any h0 hS hka
        have HH0 := Lib.hid h0
        clear h0
        go_wp2_with (fail)
        refine t.mono ?_
        clear t x0 x1 x2 xl c0 c1' c2
        rintro e w4 ⟨rfl, o4⟩
        have hX4 := o4.blk HX.out (by simp)
        obtain ⟨x0, x1, x2, xl⟩ := hX4.facts3
        have HR4 := Lib.hid (HR.out.keep o4)
        have t4 := refget_any (c := cm) HR4.out k (by omega)
        have HH4 := Lib.hid (HH0.out.keep o4)
        have HO4 := Lib.hid (HO.out.trans o4 (by simp))
        have HB4 := Lib.hid (Nat.le_trans HB0.out o4.size)
        clear hX4 o4 HO HB0 f HR HX HH0
        go_wp2_with (fail)
        refine t4.mono ?_
        clear t4 x0 x1 x2 xl
        rintro e w5 ⟨rfl, o5⟩
        have t6 := len_any (HH4.out.keep o5)
        have HH5 := Lib.hid (HH4.out.keep o5)
        have HO5 := Lib.hid (HO4.out.trans o5 (by simp))
        have HB5 := Lib.hid (Nat.le_trans HB4.out o5.size)
        have HR5 := Lib.hid (HR4.out.keep o5)
        rw [hL1] at t6
        clear o5 HH4 HO4 HB4 HR4
        go_wp2_with (fail)
        refine t6.mono ?_
        clear t6
        rintro e w6 ⟨rfl, o6⟩
        have HH6 := Lib.hid (HH5.out.keep o6)
        have HO6 := Lib.hid (HO5.out.trans o6 (by simp))
        have HB6 := Lib.hid (Nat.le_trans HB5.out o6.size)
        have HR6 := Lib.hid (HR5.out.keep o6)
        clear o6 HH5 HO5 HB5 HR5
        go_wp2_with (fail)
        go_roundw
        case rel => exact ⟨i + 1, L1, A1, c1, _, Am, cm, rfl, by go_num, by omega, by omega, hmc, HH6.out, hS, HR6.out, HO6.out, HB6.out⟩
        case measure => simp [intOf]; omega
      · as_aux_lemma =>
        cases m with
        | nil =>
          have t := pop_any h0 hS (by omega)
          unfold hd some? at t
          have HH0 := Lib.hid h0
          clear h0
          go_wp2_with (fail)
          refine t.mono ?_
          clear t c0 c1' c2 x0 x1 x2 xl
          rintro e w4 ⟨rfl, L4, h4, s4, o4⟩
          have R4 := HH0.out.row2 HR.out o4
          have O4 := HO.out.trans o4 f
          have l4 : L4.length = ([] : List Ent).length := s4.length
          have o5 : Only [] w4 (w4.alloc (.cells #[.int .i64 0, .int .i64 0] 40)) := (Only.refl [] w4).alloc _
          have hy := Blk.new w4 40 #[.int .i64 0, .int .i64 0]
          have h5 := h4.keep o5
          have R5 := R4.keep o5
          have HB5 := Lib.hid (Nat.le_trans HB0.out (Nat.le_trans o4.size o5.size))
          have O5 := O4.trans o5 (by simp)
          obtain ⟨y0, y1, yl⟩ := hy.facts2
          have HH5 := Lib.hid h5
          have HR5 := Lib.hid R5
          have HO5 := Lib.hid O5
          have HY := Lib.hid hy
          have hE0 := eq_33T 0 0
          clear h4 R4 O4 o4 o5 h5 R5 O5 hy HH0 HR HO HB0 f HX hxn
          go_wp2_with (fail)
          generalize hW5 : w4.alloc (.cells #[.int .i64 0, .int .i64 0] 40) = w5 at *
          clear hW5
          refine (plain_any (0, 0) w5).mono ?_
          rintro e w6 ⟨rfl, oW⟩
          have HH6 := Lib.hid (HH5.out.keep oW)
          have HR6 := Lib.hid (HR5.out.keep oW)
          have HO6 := Lib.hid (HO5.out.trans oW (by simp))
          have HB6 := Lib.hid (Nat.le_trans HB5.out oW.size)
          have t6 := len_any HH6.out
          rw [l4] at t6
          clear oW HH5 HR5 HO5 HB5 HY y0 y1 yl
          go_wp2_with (fail)
          refine t6.mono ?_
          clear t6
          rintro e w7 ⟨rfl, o7⟩
          have HH7 := Lib.hid (HH6.out.keep o7)
          have HO7 := Lib.hid (HO6.out.trans o7 (by simp))
          have HB7 := Lib.hid (Nat.le_trans HB6.out o7.size)
          have HR7 := Lib.hid (HR6.out.keep o7)
          clear o7 HH6 HO6 HB6 HR6
          go_wp2_with (fail)
          go_roundw
          case rel => exact ⟨i + 1, L4, A1, c1, [], Am, cm, by first | rfl | simp, by go_num, by omega, by first | (simp; done) | (simp at hm ⊢; omega), hmc, HH7.out, s4, HR7.out, HO7.out, HB7.out⟩
          case measure => simp [intOf]; omega
        | cons y r =>
          have t := pop_any h0 hS (by omega)
          unfold hd some? at t
          have HH0 := Lib.hid h0
          clear h0
          go_wp2_with (fail)
          refine t.mono ?_
          clear t c0 c1' c2 x0 x1 x2 xl
          rintro e w4 ⟨rfl, L4, h4, s4, o4⟩
          have R4 := HH0.out.row2 HR.out o4
          have O4 := HO.out.trans o4 f
          have l4 : L4.length = r.length := s4.length
          have o5 : Only [] w4 (w4.alloc (.cells #[.int .i64 y.1, .int .i64 y.2] 40)) := (Only.refl [] w4).alloc _
          have hy := Blk.new w4 40 #[.int .i64 y.1, .int .i64 y.2]
          have h5 := h4.keep o5
          have R5 := R4.keep o5
          have HB5 := Lib.hid (Nat.le_trans HB0.out (Nat.le_trans o4.size o5.size))
          have O5 := O4.trans o5 (by simp)
          obtain ⟨y0, y1, yl⟩ := hy.facts2
          obtain ⟨b5, q5, rfl, bl5, d0, d1⟩ := row_cell R5 (i := 0) (e := y) rfl
          rw [Nat.zero_mul, Nat.add_zero] at d0 d1
          have hcI : (r.length : Int) + 1 ≤ (cm : Int) := by simp at hmc; omega
          have hc1 : (1 : Int) ≤ (r.length : Int) + 1 := by omega
          have HH5 := Lib.hid h5
          have HR5 := Lib.hid R5
          have HO5 := Lib.hid O5
          have HY := Lib.hid hy
          clear h4 R4 O4 o4 o5 h5 R5 O5 hy HH0 HR HO HB0 f HX hxn
          go_wp2_with (fail)
          generalize hW5 : w4.alloc (.cells #[.int .i64 y.1, .int .i64 y.2] 40) = w5 at *
          clear hW5
          go_region_held3 (fun w' => w'.cell? ⟨w4.heap.size, 0, none⟩ = some (.int .i64 y.1) ∧ w'.cell? ⟨w4.heap.size, 1, none⟩ = some (.int .i64 y.2) ∧ w'.cell? ⟨b5, q5, none⟩ = some (.int .i64 y.1) ∧ w'.cell? ⟨b5, q5 + 1, none⟩ = some (.int .i64 y.2)) (first | (go_keep; done) | (refine ⟨?_, ?_, ?_, ?_⟩ <;> (go_simp; done)))
            (first | (go_at_call 18; refine (plain_any y _).mono ?_; rintro e w6 ⟨rfl, o6⟩; have oW : Only [] w5 w6 := (by first | exact o6 | exact Only.trans (Only.drewN (Only.refl [] w5) _) o6 (by simp) | exact Only.trans (Only.drew (Only.refl [] w5)) o6 (by simp)); clear y0 y1 yl d0 d1 bl5 o6; obtain ⟨y0, y1, yl⟩ := (oW.blk HY.out (by simp)).facts2; obtain ⟨b6, q6, hb6, bl5, d0, d1⟩ := row_cell (HR5.out.keep oW) (i := 0) (e := y) rfl; (injection hb6 with hb6); (injection hb6 with hb6 hq6); subst hb6; subst hq6; rw [Nat.zero_mul, Nat.add_zero] at d0 d1; have HH6 := Lib.hid (HH5.out.keep oW); have HR6 := Lib.hid (HR5.out.keep oW); have HO6 := Lib.hid (HO5.out.trans oW (by simp)); have HB6 := Lib.hid (Nat.le_trans HB5.out oW.size); clear oW HH5 HR5 HO5 HB5 HY))
          have t6 := len_any HH6.out
          rw [l4] at t6
          clear y0 y1 yl d0 d1 bl5
          by_cases hcm : cm = 1
          · obtain rfl : r = [] := by
              rw [hcm] at hmc
              simp at hmc
              exact hmc
            go_wp2_with (fail)
            refine t6.mono ?_
            clear t6
            rintro e w7 ⟨rfl, o7⟩
            have HH7 := Lib.hid (HH6.out.keep o7)
            have HO7 := Lib.hid (HO6.out.trans o7 (by simp))
            have HB7 := Lib.hid (Nat.le_trans HB6.out o7.size)
            have HR7 := Lib.hid (HR6.out.keep o7)
            clear o7 HH6 HO6 HB6 HR6
            go_wp2_with (fail)
            go_roundw
            case rel => exact ⟨i + 1, L4, A1, c1, [], (some ⟨b5, q5, none⟩), (cm - 1), by first | rfl | simp [hcm], by go_num, by omega, by first | (simp; done) | (simp at hm ⊢; omega), (by omega), HH7.out, s4, .inl rfl, HO7.out, HB7.out⟩
            case measure => simp [intOf]; omega
          · skip
            go_wp2_with (fail)
            refine t6.mono ?_
            clear t6
            rintro e w7 ⟨rfl, o7⟩
            have HH7 := Lib.hid (HH6.out.keep o7)
            have HO7 := Lib.hid (HO6.out.trans o7 (by simp))
            have HB7 := Lib.hid (Nat.le_trans HB6.out o7.size)
            have HR7 := Lib.hid (HR6.out.keep o7)
            clear o7 HH6 HO6 HB6 HR6
            go_wp2_with (fail)
            go_roundw
            case rel => exact ⟨i + 1, L4, A1, c1, r, (some ⟨b5, q5 + 2, none⟩), (cm - 1), by first | rfl | simp, by go_num, by omega, by first | (simp; done) | (simp at hm ⊢; omega), (by omega), HH7.out, s4, HR7.out.tail, HO7.out, HB7.out⟩
            case measure => simp [intOf]; omega

      · as_aux_lemma =>
        cases m with
        | nil =>
          have t := min_any h0 hS
          unfold hd some? at t
          have HH0 := Lib.hid h0
          clear h0
          go_wp2_with (fail)
          refine t.mono ?_
          clear t c0 c1' c2 x0 x1 x2 xl
          rintro e w4 ⟨rfl, o4⟩
          have h4 := HH0.out.keep o4
          have s4 := hS
          have R4 := HR.out.keep o4
          have O4 := HO.out.trans o4 (by simp)
          have l4 : L1.length = ([] : List Ent).length := s4.length
          have o5 : Only [] w4 (w4.alloc (.cells #[.int .i64 0, .int .i64 0] 40)) := (Only.refl [] w4).alloc _
          have hy := Blk.new w4 40 #[.int .i64 0, .int .i64 0]
          have h5 := h4.keep o5
          have R5 := R4.keep o5
          have HB5 := Lib.hid (Nat.le_trans HB0.out (Nat.le_trans o4.size o5.size))
          have O5 := O4.trans o5 (by simp)
          obtain ⟨y0, y1, yl⟩ := hy.facts2
          have HH5 := Lib.hid h5
          have HR5 := Lib.hid R5
          have HO5 := Lib.hid O5
          have HY := Lib.hid hy
          have hE0 := eq_33T 0 0
          clear h4 R4 O4 o4 o5 h5 R5 O5 hy HH0 HR HO HB0 f HX hxn
          go_wp2_with (fail)
          generalize hW5 : w4.alloc (.cells #[.int .i64 0, .int .i64 0] 40) = w5 at *
          clear hW5
          refine (plain_any (0, 0) w5).mono ?_
          rintro e w6 ⟨rfl, oW⟩
          have HH6 := Lib.hid (HH5.out.keep oW)
          have HR6 := Lib.hid (HR5.out.keep oW)
          have HO6 := Lib.hid (HO5.out.trans oW (by simp))
          have HB6 := Lib.hid (Nat.le_trans HB5.out oW.size)
          have t6 := len_any HH6.out
          rw [l4] at t6
          clear oW HH5 HR5 HO5 HB5 HY y0 y1 yl
          go_wp2_with (fail)
          refine t6.mono ?_
          clear t6
          rintro e w7 ⟨rfl, o7⟩
          have HH7 := Lib.hid (HH6.out.keep o7)
          have HO7 := Lib.hid (HO6.out.trans o7 (by simp))
          have HB7 := Lib.hid (Nat.le_trans HB6.out o7.size)
          have HR7 := Lib.hid (HR6.out.keep o7)
          clear o7 HH6 HO6 HB6 HR6
          go_wp2_with (fail)
          go_roundw
          case rel => exact ⟨i + 1, L1, A1, c1, [], Am, cm, by first | rfl | simp, by go_num, by omega, by first | (simp; done) | (simp at hm ⊢; omega), hmc, HH7.out, hS, HR7.out, HO7.out, HB7.out⟩
          case measure => simp [intOf]; omega
        | cons y r =>
          have t := min_any h0 hS
          unfold hd some? at t
          have HH0 := Lib.hid h0
          clear h0
          go_wp2_with (fail)
          refine t.mono ?_
          clear t c0 c1' c2 x0 x1 x2 xl
          rintro e w4 ⟨rfl, o4⟩
          have h4 := HH0.out.keep o4
          have s4 := hS
          have R4 := HR.out.keep o4
          have O4 := HO.out.trans o4 (by simp)
          have l4 : L1.length = (y :: r).length := s4.length
          have o5 : Only [] w4 (w4.alloc (.cells #[.int .i64 y.1, .int .i64 y.2] 40)) := (Only.refl [] w4).alloc _
          have hy := Blk.new w4 40 #[.int .i64 y.1, .int .i64 y.2]
          have h5 := h4.keep o5
          have R5 := R4.keep o5
          have HB5 := Lib.hid (Nat.le_trans HB0.out (Nat.le_trans o4.size o5.size))
          have O5 := O4.trans o5 (by simp)
          obtain ⟨y0, y1, yl⟩ := hy.facts2
          obtain ⟨b5, q5, rfl, bl5, d0, d1⟩ := row_cell R5 (i := 0) (e := y) rfl
          rw [Nat.zero_mul, Nat.add_zero] at d0 d1
          have hcI : (r.length : Int) + 1 ≤ (cm : Int) := by simp at hmc; omega
          have hc1 : (1 : Int) ≤ (r.length : Int) + 1 := by omega
          have HH5 := Lib.hid h5
          have HR5 := Lib.hid R5
          have HO5 := Lib.hid O5
          have HY := Lib.hid hy
          clear h4 R4 O4 o4 o5 h5 R5 O5 hy HH0 HR HO HB0 f HX hxn
          go_wp2_with (fail)
          generalize hW5 : w4.alloc (.cells #[.int .i64 y.1, .int .i64 y.2] 40) = w5 at *
          clear hW5
          go_region_held3 (fun w' => w'.cell? ⟨w4.heap.size, 0, none⟩ = some (.int .i64 y.1) ∧ w'.cell? ⟨w4.heap.size, 1, none⟩ = some (.int .i64 y.2) ∧ w'.cell? ⟨b5, q5, none⟩ = some (.int .i64 y.1) ∧ w'.cell? ⟨b5, q5 + 1, none⟩ = some (.int .i64 y.2)) (first | (go_keep; done) | (refine ⟨?_, ?_, ?_, ?_⟩ <;> (go_simp; done)))
            (first | (go_at_call 18; refine (plain_any y _).mono ?_; rintro e w6 ⟨rfl, o6⟩; have oW : Only [] w5 w6 := (by first | exact o6 | exact Only.trans (Only.drewN (Only.refl [] w5) _) o6 (by simp) | exact Only.trans (Only.drew (Only.refl [] w5)) o6 (by simp)); clear y0 y1 yl d0 d1 bl5 o6; obtain ⟨y0, y1, yl⟩ := (oW.blk HY.out (by simp)).facts2; obtain ⟨b6, q6, hb6, bl5, d0, d1⟩ := row_cell (HR5.out.keep oW) (i := 0) (e := y) rfl; (injection hb6 with hb6); (injection hb6 with hb6 hq6); subst hb6; subst hq6; rw [Nat.zero_mul, Nat.add_zero] at d0 d1; have HH6 := Lib.hid (HH5.out.keep oW); have HR6 := Lib.hid (HR5.out.keep oW); have HO6 := Lib.hid (HO5.out.trans oW (by simp)); have HB6 := Lib.hid (Nat.le_trans HB5.out oW.size); clear oW HH5 HR5 HO5 HB5 HY))
          have t6 := len_any HH6.out
          rw [l4] at t6
          clear y0 y1 yl d0 d1 bl5
          go_wp2_with (fail)
          refine t6.mono ?_
          clear t6
          rintro e w7 ⟨rfl, o7⟩
          have HH7 := Lib.hid (HH6.out.keep o7)
          have HO7 := Lib.hid (HO6.out.trans o7 (by simp))
          have HB7 := Lib.hid (Nat.le_trans HB6.out o7.size)
          have HR7 := Lib.hid (HR6.out.keep o7)
          clear o7 HH6 HO6 HB6 HR6
          go_wp2_with (fail)
          go_roundw
          case rel => exact ⟨i + 1, L1, A1, c1, (y :: r), (some ⟨b5, q5, none⟩), cm, by first | rfl | simp, by go_num, by omega, by first | (simp; done) | (simp at hm ⊢; omega), hmc, HH7.out, hS, HR7.out, HO7.out, HB7.out⟩
          case measure => simp [intOf]; omega

    · have iz1 : ¬ (i : Int) < (L.length : Int) := by omega
      have HO := Lib.hid hO
      clear hH hO
      go_wp2_with (fail)
      go_ret
      exact ⟨rfl, HO.out⟩
theorem heapplays_any {A : Option Addr} {cap : Nat} {L : List Ac} {w : World} (hL : Acs w A L) (hlen : L.length ≤ 9223372036854775807) :
    Calls Try.prog 3 #[.slice A L.length cap] w fun e w' => e = .returned (.bool true) ∧ Only [] w w' := by
  by_cases hl : 200 < L.length
  · exact plays_many hl hlen
  · exact plays_few hL (by omega)
end Go.Proofs.Ytodiemichniehaa
