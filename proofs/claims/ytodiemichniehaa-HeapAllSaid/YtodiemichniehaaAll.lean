/- HeapAll: the law's own walk. -/
import Derived.Test.YtodiemichniehaaAllB
namespace Go.Proofs.Ytodiemichniehaa
open Go.RowKit Go.Kx Go.Maps
attribute [local go_sem] Oper.semAt_some
set_option maxRecDepth 100000

set_option maxHeartbeats 8000000 in
theorem all_few {A : Option Addr} {cap : Nat} {L : List Ac} {z : Int} {w : World} (hL : Acs w A L) (hl : L.length ≤ 200) (hz0 : 0 ≤ z) (hz1 : z ≤ 255) :
    Calls Try.prog 7 #[.slice A L.length cap, .int .u8 z] w fun e w' => e = .returned (.bool true) ∧ Only [] w w' := by
  have hg : decide ((200 : Int) < (L.length : Int)) = false := by simp; omega
  have HL := Lib.hid hL
  have HZ := Lib.hid (And.intro hz0 hz1)
  clear hL hz0 hz1
  refine calls_marks Try.func7 rfl ?_
  simp only [Try.ntmps7, List.size_toArray, List.length_cons, List.length_nil, Nat.reduceAdd, Nat.reduceSub, Array.replicate_succ, Array.replicate_zero, List.push_toArray, List.append_toArray, List.nil_append, List.cons_append]
  go_wp2_with (fail)
  have hsb0 : Blk ((w.alloc (.cells #[.int .u8 z] 5)).alloc (.cells #[.bool false] 4)) w.heap.size 5 #[.int .u8 z] := (Blk.new w 5 _).alloc _
  have hrb0 : Blk ((w.alloc (.cells #[.int .u8 z] 5)).alloc (.cells #[.bool false] 4)) (w.heap.size + 1) 4 #[.bool false] := by have h := Blk.new (w.alloc (.cells #[.int .u8 z] 5)) 4 #[.bool false]; simpa using h
  have ho0 : Only [] w ((w.alloc (.cells #[.int .u8 z] 5)).alloc (.cells #[.bool false] 4)) := ((Only.refl _ _).alloc _).alloc _
  refine (awake_any _).mono ?_
  rintro e w1 ⟨rfl, o1⟩
  have HSB := Lib.hid (o1.blk hsb0 (by simp))
  have HRB := Lib.hid (o1.blk hrb0 (by simp))
  have HO1 := Lib.hid (ho0.trans o1 (by simp))
  have hs1 : w.heap.size + 1 < w1.heap.size := HRB.out.lt
  clear o1 hsb0 hrb0 ho0
  go_wp2_with (fail)
  refine (new_some w1).mono ?_
  rintro e w2 ⟨rfl, h2, o2⟩
  have hb2 : w1.heap.size + 1 ≤ w2.heap.size := by have := h2.blk.lt; omega
  have o3 : Only [] w2 (w2.alloc (.cells #[.slice none 0 0] 27)) := (Only.refl _ _).alloc _
  have hmb := Blk.new w2 27 #[.slice none 0 0]
  obtain ⟨g, hgd⟩ : ∃ g, w1.heap.size + 1 = g := ⟨_, rfl⟩
  obtain ⟨bm, hbd⟩ : ∃ bm, w1.heap.size = bm := ⟨_, rfl⟩
  have hgl : w.heap.size ≤ g := by omega
  have hbl : w.heap.size ≤ bm := by omega
  rw [hgd, hbd] at h2
  rw [hgd] at hb2 ⊢
  have HH2 := Lib.hid (h2.keep o3)
  have HA2 := Lib.hid (show AB w (w2.alloc (.cells #[.slice none 0 0] 27)) w2.heap.size w.heap.size (w.heap.size + 1) z none 0 [] from
    ⟨hmb, o3.blk (o2.blk HSB.out (by simp)) (by simp), o3.blk (o2.blk HRB.out (by simp)) (by simp), .inl rfl, (HO1.out.trans o2 (by simp)).trans o3 (by simp), Nat.le_refl _⟩)
  have hb3 := Nat.le_trans hb2 o3.size
  have hmw : w.heap.size ≤ w2.heap.size := by omega
  clear h2 o2 o3 HO1 hgd hbd HSB HRB hmb
  go_wp2_with (fail)
  obtain ⟨mb, hmbd⟩ : ∃ mb, w2.heap.size = mb := ⟨_, rfl⟩
  generalize hw3 : w2.alloc (.cells #[.slice none 0 0] 27) = w3 at HH2 HA2 hb3 ⊢
  rw [hmbd] at HA2 hmw ⊢
  clear hw3 hmbd hb2
  go_loopw [7] (fun u wr => ∃ (i : Nat) (L1 : List Ent) (A1 : Option Addr) (c1 : Nat) (m : List Ent) (Am : Option Addr) (cm : Nat), u = .int .i64 i ∧ i ≤ L.length ∧ m.length ≤ i ∧ HB g wr g (some bm) L1 A1 c1 ∧ HS L1 m ∧ AB w wr mb w.heap.size (w.heap.size + 1) z Am cm m ∧ g ≤ wr.heap.size) (fun u _ => L.length - (intOf u).toNat)
  case atStart => exact ⟨0, [], none, 0, [], none, 0, rfl, Nat.zero_le _, Nat.le_refl _, HH2.out, HS.nil, HA2.out, hb3⟩
  case round =>
    clear HH2 HA2 hb3
    obtain ⟨i, L1, A1, c1, m, Am, cm, rfl, hi, hm, hH, hS, hAB, hB⟩ := hrel
    have hL1 : L1.length = m.length := hS.length
    by_cases hlt : i < L.length
    · obtain ⟨⟨⟨hd0, hd1⟩, hka, hxa⟩, b, o, rfl, hb, c0, c1', c2⟩ := (HL.out.only hAB.o) i L[i] (List.getElem?_eq_getElem hlt)
      generalize L[i] = q at hd0 hd1 hka hxa c0 c1' c2
      obtain ⟨d, k, x⟩ := q
      dsimp only at hd0 hd1 hka hxa c0 c1' c2
      have iz0 : (0 : Int) ≤ (i : Int) := by omega
      have iz1 : (i : Int) < (L.length : Int) := by omega
      have o0 : Only [] wr (wr.alloc (.cells #[.int .u8 d, .int .i64 k, .int .i64 x] 29)) := (Only.refl [] wr).alloc _
      have h0 := hH.keep o0
      have HB0 := Lib.hid (Nat.le_trans hB o0.size)
      have HAB := Lib.hid (hAB.keep o0)
      have hbn := Blk.new wr 29 #[.int .u8 d, .int .i64 k, .int .i64 x]
      have HX := Lib.hid hbn
      obtain ⟨x0, x1, x2, xl⟩ := hbn.facts3
      have f := h0.fresh (B0 := w.heap.size) hgl hbl
      have t := done_any h0 hS (a := (d, k, x)) ⟨⟨hd0, hd1⟩, hka, hxa⟩ (by omega) HB0.out
      have hle := doM_le m (d, k, x)
      have HH0 := Lib.hid h0
      clear hH o0 hbn hb hB hAB h0
      go_wp2_with (fail)
      refine t.mono ?_
      clear t c0 c1' c2 x0 x1 x2 xl
      rintro e w4 ⟨rfl, L4, A4, c4, h4, s4, o4⟩
      have HAB4 := Lib.hid (HAB.out.heap HH0.out o4 f)
      have hX4 := o4.blk HX.out (HH0.out.noS HX.out (by decide) (by decide))
      have HX4 := Lib.hid hX4
      have HH4 := Lib.hid h4
      have HB4 := Lib.hid (Nat.le_trans HB0.out o4.size)
      obtain ⟨x0, x1, x2, xl⟩ := hX4.facts3
      obtain ⟨m0, ml⟩ := HAB4.out.mbk.facts1
      have fm := HAB4.out.mbk.frozen 0
      clear h4 o4 f HAB HX HH0 hX4 HB0
      rcases (show d % 8 = 0 ∨ d % 8 = 1 ∨ d % 8 = 2 ∨ d % 8 = 3 ∨ d % 8 = 4 ∨ d % 8 = 5 ∨ d % 8 = 6 ∨ d % 8 = 7 by omega) with h8 | h8 | h8 | h8 | h8 | h8 | h8 | h8
      · as_aux_lemma =>
        rw [doM_set (a := (d, k, x)) (by show d % 8 ≤ 3; omega)] at s4 hle
        have t5 := refset_any (c := cm) HAB4.out.row (k, x) (by omega)
        go_wp2_with (fail)
        refine t5.mono ?_
        clear t5 x0 x1 x2 xl m0 ml fm
        rintro e w5 ⟨A5, c5, rfl, W5, o5⟩
        have hc5 := own_le W5
        have HA5 := Lib.hid (HAB4.out.keep o5)
        have HR5 := Lib.hid ((own_row2 rfl W5).base HAB4.out.o.size)
        have HH5 := Lib.hid (HH4.out.keep o5)
        have HB5 := Lib.hid (Nat.le_trans HB4.out o5.size)
        obtain ⟨m0, ml⟩ := HA5.out.mbk.facts1
        have fm := HA5.out.mbk.frozen 0
        clear W5 o5 HH4 HAB4 HB4
        go_wp2_with (fail)
        have HA6 := Lib.hid (HA5.out.store HR5.out hc5 hmw)
        have HH6 := Lib.hid (HH5.out.stored HA5.out.mbk (by decide) (by decide) (.slice A5 (setM m (k, x)).length c5))
        have HB6 := Lib.hid (show g ≤ (w5.setCell ⟨mb, 0, none⟩ (.slice A5 (setM m (k, x)).length c5)).heap.size by simpa using HB5.out)
        go_roundw
        case rel => exact ⟨i + 1, L4, A4, c4, (setM m (k, x)), A5, c5, by go_num, by omega, by omega, HH6.out, s4, HA6.out, HB6.out⟩
        case measure => simp [intOf]; omega
      · as_aux_lemma =>
        rw [doM_set (a := (d, k, x)) (by show d % 8 ≤ 3; omega)] at s4 hle
        have t5 := refset_any (c := cm) HAB4.out.row (k, x) (by omega)
        go_wp2_with (fail)
        refine t5.mono ?_
        clear t5 x0 x1 x2 xl m0 ml fm
        rintro e w5 ⟨A5, c5, rfl, W5, o5⟩
        have hc5 := own_le W5
        have HA5 := Lib.hid (HAB4.out.keep o5)
        have HR5 := Lib.hid ((own_row2 rfl W5).base HAB4.out.o.size)
        have HH5 := Lib.hid (HH4.out.keep o5)
        have HB5 := Lib.hid (Nat.le_trans HB4.out o5.size)
        obtain ⟨m0, ml⟩ := HA5.out.mbk.facts1
        have fm := HA5.out.mbk.frozen 0
        clear W5 o5 HH4 HAB4 HB4
        go_wp2_with (fail)
        have HA6 := Lib.hid (HA5.out.store HR5.out hc5 hmw)
        have HH6 := Lib.hid (HH5.out.stored HA5.out.mbk (by decide) (by decide) (.slice A5 (setM m (k, x)).length c5))
        have HB6 := Lib.hid (show g ≤ (w5.setCell ⟨mb, 0, none⟩ (.slice A5 (setM m (k, x)).length c5)).heap.size by simpa using HB5.out)
        go_roundw
        case rel => exact ⟨i + 1, L4, A4, c4, (setM m (k, x)), A5, c5, by go_num, by omega, by omega, HH6.out, s4, HA6.out, HB6.out⟩
        case measure => simp [intOf]; omega
      · as_aux_lemma =>
        rw [doM_set (a := (d, k, x)) (by show d % 8 ≤ 3; omega)] at s4 hle
        have t5 := refset_any (c := cm) HAB4.out.row (k, x) (by omega)
        go_wp2_with (fail)
        refine t5.mono ?_
        clear t5 x0 x1 x2 xl m0 ml fm
        rintro e w5 ⟨A5, c5, rfl, W5, o5⟩
        have hc5 := own_le W5
        have HA5 := Lib.hid (HAB4.out.keep o5)
        have HR5 := Lib.hid ((own_row2 rfl W5).base HAB4.out.o.size)
        have HH5 := Lib.hid (HH4.out.keep o5)
        have HB5 := Lib.hid (Nat.le_trans HB4.out o5.size)
        obtain ⟨m0, ml⟩ := HA5.out.mbk.facts1
        have fm := HA5.out.mbk.frozen 0
        clear W5 o5 HH4 HAB4 HB4
        go_wp2_with (fail)
        have HA6 := Lib.hid (HA5.out.store HR5.out hc5 hmw)
        have HH6 := Lib.hid (HH5.out.stored HA5.out.mbk (by decide) (by decide) (.slice A5 (setM m (k, x)).length c5))
        have HB6 := Lib.hid (show g ≤ (w5.setCell ⟨mb, 0, none⟩ (.slice A5 (setM m (k, x)).length c5)).heap.size by simpa using HB5.out)
        go_roundw
        case rel => exact ⟨i + 1, L4, A4, c4, (setM m (k, x)), A5, c5, by go_num, by omega, by omega, HH6.out, s4, HA6.out, HB6.out⟩
        case measure => simp [intOf]; omega
      · as_aux_lemma =>
        rw [doM_set (a := (d, k, x)) (by show d % 8 ≤ 3; omega)] at s4 hle
        have t5 := refset_any (c := cm) HAB4.out.row (k, x) (by omega)
        go_wp2_with (fail)
        refine t5.mono ?_
        clear t5 x0 x1 x2 xl m0 ml fm
        rintro e w5 ⟨A5, c5, rfl, W5, o5⟩
        have hc5 := own_le W5
        have HA5 := Lib.hid (HAB4.out.keep o5)
        have HR5 := Lib.hid ((own_row2 rfl W5).base HAB4.out.o.size)
        have HH5 := Lib.hid (HH4.out.keep o5)
        have HB5 := Lib.hid (Nat.le_trans HB4.out o5.size)
        obtain ⟨m0, ml⟩ := HA5.out.mbk.facts1
        have fm := HA5.out.mbk.frozen 0
        clear W5 o5 HH4 HAB4 HB4
        go_wp2_with (fail)
        have HA6 := Lib.hid (HA5.out.store HR5.out hc5 hmw)
        have HH6 := Lib.hid (HH5.out.stored HA5.out.mbk (by decide) (by decide) (.slice A5 (setM m (k, x)).length c5))
        have HB6 := Lib.hid (show g ≤ (w5.setCell ⟨mb, 0, none⟩ (.slice A5 (setM m (k, x)).length c5)).heap.size by simpa using HB5.out)
        go_roundw
        case rel => exact ⟨i + 1, L4, A4, c4, (setM m (k, x)), A5, c5, by go_num, by omega, by omega, HH6.out, s4, HA6.out, HB6.out⟩
        case measure => simp [intOf]; omega
      · as_aux_lemma =>
        rw [doM_del (a := (d, k, x)) h8] at s4 hle
        have t5 := refdel_any (c := cm) HAB4.out.row k (by omega)
        go_wp2_with (fail)
        refine t5.mono ?_
        clear t5 x0 x1 x2 xl m0 ml fm
        rintro e w5 ⟨A5, c5, rfl, W5, o5⟩
        have hc5 := own_le W5
        have HA5 := Lib.hid (HAB4.out.keep o5)
        have HR5 := Lib.hid ((own_row2 rfl W5).base HAB4.out.o.size)
        have HH5 := Lib.hid (HH4.out.keep o5)
        have HB5 := Lib.hid (Nat.le_trans HB4.out o5.size)
        obtain ⟨m0, ml⟩ := HA5.out.mbk.facts1
        have fm := HA5.out.mbk.frozen 0
        clear W5 o5 HH4 HAB4 HB4
        go_wp2_with (fail)
        have HA6 := Lib.hid (HA5.out.store HR5.out hc5 hmw)
        have HH6 := Lib.hid (HH5.out.stored HA5.out.mbk (by decide) (by decide) (.slice A5 (delM m k).length c5))
        have HB6 := Lib.hid (show g ≤ (w5.setCell ⟨mb, 0, none⟩ (.slice A5 (delM m k).length c5)).heap.size by simpa using HB5.out)
        go_roundw
        case rel => exact ⟨i + 1, L4, A4, c4, (delM m k), A5, c5, by go_num, by omega, by omega, HH6.out, s4, HA6.out, HB6.out⟩
        case measure => simp [intOf]; omega
      · as_aux_lemma =>
        rw [doM_none (a := (d, k, x)) (.inl h8)] at s4 hle
        have HA6 := HAB4
        have HH6 := HH4
        have HB6 := HB4
        go_wp2_with (fail)
        go_roundw
        case rel => exact ⟨i + 1, L4, A4, c4, m, Am, cm, by go_num, by omega, by omega, HH6.out, s4, HA6.out, HB6.out⟩
        case measure => simp [intOf]; omega
      · as_aux_lemma =>
        rw [doM_pop (a := (d, k, x)) h8] at s4 hle
        cases m with
        | nil =>
          have HA6 := HAB4
          have HH6 := HH4
          have HB6 := HB4
          go_wp2_with (fail)
          go_roundw
          case rel => exact ⟨i + 1, L4, A4, c4, [], Am, cm, by go_num, by omega, by simp, HH6.out, s4, HA6.out, HB6.out⟩
          case measure => simp [intOf]; omega
        | cons y r =>
          replace s4 : HS L4 r := s4
          have hcap := HAB4.out.cap
          have hcI : (r.length : Int) + 1 ≤ (cm : Int) := by simp at hcap; omega
          have hc1 : (1 : Int) ≤ (r.length : Int) + 1 := by omega
          have hmr : r.length ≤ i := by simp at hm; omega
          obtain ⟨b5, q5, rfl, bl5, d0, d1⟩ := row_cell HAB4.out.row (i := 0) (e := y) rfl
          clear d0 d1 bl5
          have HH6' := Lib.hid (fun v => HH4.out.stored HAB4.out.mbk (by decide) (by decide) v)
          by_cases hcm : cm = 1
          · obtain rfl : r = [] := by
              rw [hcm] at hcap
              simp at hcap
              exact hcap
            have HA6 := Lib.hid (HAB4.out.store (mm' := []) (Am' := some ⟨b5, q5, none⟩) (cm' := cm - 1) (.inl rfl) (by simp) hmw)
            go_wp2_with (fail)
            go_roundw
            case rel => exact ⟨i + 1, L4, A4, c4, [], some ⟨b5, q5, none⟩, cm - 1, by go_num, by omega, by simp, by simpa [hcm] using HH6'.out _, s4, by simpa [hcm] using HA6.out, Nat.le_trans HB4.out (only_setCell w4 ⟨mb, 0, none⟩ _).size⟩
            case measure => simp [intOf]; omega
          · have HA6 := Lib.hid (HAB4.out.store (mm' := r) (Am' := some ⟨b5, q5 + 2, none⟩) (cm' := cm - 1) HAB4.out.row.tail (by simp at hcap; omega) hmw)
            go_wp2_with (fail)
            go_roundw
            case rel => exact ⟨i + 1, L4, A4, c4, r, some ⟨b5, q5 + 2, none⟩, cm - 1, by go_num, by omega, by omega, HH6'.out _, s4, HA6.out, Nat.le_trans HB4.out (only_setCell w4 ⟨mb, 0, none⟩ _).size⟩
            case measure => simp [intOf]; omega
      · as_aux_lemma =>
        rw [doM_none (a := (d, k, x)) (.inr h8)] at s4 hle
        have HA6 := HAB4
        have HH6 := HH4
        have HB6 := HB4
        go_wp2_with (fail)
        go_roundw
        case rel => exact ⟨i + 1, L4, A4, c4, m, Am, cm, by go_num, by omega, by omega, HH6.out, s4, HA6.out, HB6.out⟩
        case measure => simp [intOf]; omega
    · have iz1 : ¬ (i : Int) < (L.length : Int) := by omega
      have hm200 : m.length ≤ 200 := by omega
      have HH := Lib.hid hH
      have HA := Lib.hid hAB
      clear hH hAB hm hi
      go_wp2_with (fail)
      refine (all_any _ (some ⟨g, 0, none⟩) rfl _).mono ?_
      rintro e w4 ⟨rfl, rfl⟩
      have o4 : Only [] wr (wr.alloc (.cells #[.pointer (some ⟨g, 0, none⟩)] 24)) := (Only.refl _ _).alloc _
      have hhb := Blk.new wr 24 #[.pointer (some ⟨g, 0, none⟩)]
      have t5 := collect_any (all_seqs (HH.out.keep o4) hS (by omega) hhb) (by omega)
      have HH4 := Lib.hid (HH.out.keep o4)
      have HA4 := Lib.hid (HA.out.keep o4)
      clear o4 hhb HH HA
      go_wp2_with (fail)
      refine t5.mono ?_
      clear t5
      generalize wr.alloc (.cells #[.pointer (some ⟨g, 0, none⟩)] 24) = w4 at HH4 HA4
      rintro e w5 ⟨A9, c9, rfl, W5, o5⟩
      have HH5 := Lib.hid (HH4.out.keep o5)
      have HA5 := Lib.hid (HA4.out.keep o5)
      have HW5 := Lib.hid W5
      have hz4 := HA4.out.o.size
      obtain ⟨m0, ml⟩ := HA5.out.mbk.facts1
      clear W5 o5 HH4 HA4
      have hnn : ((m.length : Int) == (m.length : Int)) = true := by simp
      go_wp2_with (fail)
      go_region_held3 (fun w' => w'.cell? ⟨mb, 0, none⟩ = some (.slice Am m.length cm)) (first | (go_keep; done) | (go_simp; done))
        (first | (go_at_call 20; refine (len_any (HH5.out.keep (by first | exact Only.refl [] _ | exact Only.drew (Only.refl [] _) | exact Only.drewN (Only.refl [] _) _))).mono ?_; rintro e w6 ⟨rfl, o6⟩; have oW : Only [] w5 w6 := (by first | exact o6 | exact Only.trans (Only.drew (Only.refl [] w5)) o6 (by simp) | exact Only.trans (Only.drewN (Only.refl [] w5) _) o6 (by simp)); have HH6 := Lib.hid (HH5.out.keep oW); have HA6 := Lib.hid (HA5.out.keep oW); have HW6 := Lib.hid (ownsRow_only oW HW5.out (fun _ _ => by simp)); clear m0 ml; obtain ⟨m0, ml⟩ := HA6.out.mbk.facts1; clear o6 oW HH5 HA5 HW5))
      clear m0 ml
      have hwb := Blk.new w6 3 #[.int .i64 0]
      have o7 : Only [] w6 (w6.alloc (.cells #[.int .i64 0] 3)) := (Only.refl _ _).alloc _
      have HH7 := Lib.hid (HH6.out.keep o7)
      have HA7 := Lib.hid (HA6.out.keep o7)
      have HW7 := Lib.hid (ownsRow_only o7 HW6.out (fun _ _ => by simp))
      have hwbw : w.heap.size ≤ w6.heap.size := HA6.out.o.size
      have HWB := Lib.hid hwb
      obtain ⟨T, hTd⟩ : ∃ T, (tw m).length = T := ⟨_, rfl⟩
      have hTm : T ≤ m.length := by rw [← hTd]; exact tw_le m
      have HT := Lib.hid hTd
      clear hwb o7 HH6 HA6 HW6 hTd
      go_wp2_with (fail)
      obtain ⟨wb, hwbd⟩ : ∃ wb, w6.heap.size = wb := ⟨_, rfl⟩
      generalize hw7 : w6.alloc (.cells #[.int .i64 0] 3) = w7 at HH7 HA7 HW7 HWB ⊢
      rw [hwbd] at HWB hwbw ⊢
      clear hw7 hwbd
      go_loopw [11] (fun u ws => ∃ j : Nat, u = .int .i64 j ∧ j ≤ m.length ∧ Blk ws wb 3 #[.int .i64 ((min j T : Nat) : Int)] ∧ HB g ws g (some bm) L1 A1 c1 ∧ AB w ws mb w.heap.size (w.heap.size + 1) z Am cm m ∧ ws.ownsRow w4.heap.size 40 2 (.slice A9 m.length c9) m.length (flat2 m)) (fun u _ => m.length - (intOf u).toNat)
      case atStart => exact ⟨0, rfl, Nat.zero_le _, by simpa using HWB.out, HH7.out, HA7.out, HW7.out⟩
      case round =>
        clear HH7 HA7 HW7 HWB
        obtain ⟨j, rfl, hj, hwb, hH, hAB, hW9⟩ := hrel
        by_cases hjt : j < m.length
        · have hjm : m[j]? = some (gt_ m j) := gt_at hjt
          obtain ⟨p9, hp9, pl9, pb9, a0, a1⟩ := own_cell rfl hW9 hjm
          obtain ⟨b5, q5, hb5, bl5, d0, d1⟩ := row_cell hAB.row hjm
          subst hp9
          subst hb5
          generalize hy : gt_ m j = y at hjm a0 a1 d0 d1
          have jz0 : (0 : Int) ≤ (j : Int) := by omega
          have jz1 : (j : Int) < (m.length : Int) := by omega
          have hE := neq_33T
          obtain ⟨m0, ml⟩ := hAB.mbk.facts1
          have HWB := Lib.hid hwb
          have HH := Lib.hid hH
          have HA := Lib.hid hAB
          have HW := Lib.hid hW9
          have hTlow : lowE y = true → j ≤ T → j + 1 ≤ T := fun h1 h2 => by
            have := HT.out
            have h3 := (tw_low (by omega) hjm h1).1
            omega
          have hThigh : lowE y = false → j ≤ T → T = j := fun h1 h2 => by
            have := HT.out
            have h3 := tw_high (by omega) hjm h1
            omega
          clear hwb hH hAB hW9
          go_wp2_with (fail)
          go_region_held3 (fun w' => w'.cell? ⟨mb, 0, none⟩ = some (.slice (some ⟨b5, q5, none⟩) m.length cm) ∧ w'.cell? ⟨p9, j * 2, none⟩ = some (.int .i64 y.1) ∧ w'.cell? ⟨p9, j * 2 + 1, none⟩ = some (.int .i64 y.2) ∧ w'.cell? ⟨b5, q5 + j * 2, none⟩ = some (.int .i64 y.1) ∧ w'.cell? ⟨b5, q5 + j * 2 + 1, none⟩ = some (.int .i64 y.2)) (first | (go_keep; done) | (refine ⟨?_, ?_, ?_, ?_, ?_⟩ <;> (go_simp; done)))
            (first | (go_at_call 18; refine (plain_any y _).mono ?_; rintro e w8 ⟨rfl, o8⟩; have oW : Only [] wr w8 := (by first | exact o8 | exact Only.trans (Only.drew (Only.refl [] _)) o8 (by simp) | exact Only.trans (Only.drewN (Only.refl [] _) _) o8 (by simp)); have HWB8 := Lib.hid (oW.blk HWB.out (by simp)); have HH8 := Lib.hid (HH.out.keep oW); have HA8 := Lib.hid (HA.out.keep oW); have HW8 := Lib.hid (ownsRow_only oW HW.out (fun _ _ => by simp)); clear a0 a1 d0 d1 m0 ml bl5; obtain ⟨m0, ml⟩ := HA8.out.mbk.facts1; obtain ⟨b6, q6, hb6, bl5, d0, d1⟩ := row_cell HA8.out.row hjm; (injection hb6 with hb6); (injection hb6 with hb6 hq6); subst hb6; subst hq6; obtain ⟨p8, hp8, _, _, a0, a1⟩ := own_cell rfl HW8.out hjm; (injection hp8 with hp8); (injection hp8 with hp8); subst hp8; clear o8 oW HWB HH HA HW))
          clear a0 a1
          by_cases hjT : j ≤ T
          · have hmin : ((min j T : Nat) : Int) = (j : Int) := by omega
            rw [hmin] at HWB8
            cases hlo : lowE y with
            | true =>
              have hT1 := hTlow hlo hjT
              replace hlo : decide (y.2 ≤ 4) = true := hlo
              have t := low_any y.2 (b := true) hlo w8
              go_wp2_with (fail)
              refine t.mono ?_
              clear t d0 d1 m0 ml bl5
              rintro e w9 ⟨rfl, o9⟩
              have HWB9 := Lib.hid (o9.blk HWB8.out (by simp))
              have HH9 := Lib.hid (HH8.out.keep o9)
              have HA9 := Lib.hid (HA8.out.keep o9)
              have HW9 := Lib.hid (ownsRow_only o9 HW8.out (fun _ _ => by simp))
              obtain ⟨v0, vl⟩ := HWB9.out.facts1
              have fv := HWB9.out.frozen 0
              clear o9 HWB8 HH8 HA8 HW8
              go_wp2_with (fail)
              go_roundw
              case rel =>
                have o := only_setCell w9 ⟨wb, 0, none⟩ (.int .i64 ((j : Int) + 1))
                refine ⟨j + 1, by go_num, by omega, ?_, HH9.out.stored HWB9.out (by decide) (by decide) _, HA9.out.only HWB9.out o hwbw, ownsRow_only o HW9.out (fun b hb hm => by simp at hm; subst hm; exact owns_ne HW9.out HWB9.out (by decide) hb)⟩
                have h := HWB9.out.set_ 0 (.int .i64 ((j : Int) + 1))
                rw [show ((min (j + 1) T : Nat) : Int) = (j : Int) + 1 by omega]
                simpa using h
              case measure => simp [intOf]; omega
            | false =>
              have hT1 := hThigh hlo hjT
              replace hlo : decide (y.2 ≤ 4) = false := hlo
              have t := low_any y.2 (b := false) hlo w8
              go_wp2_with (fail)
              refine t.mono ?_
              clear t d0 d1 m0 ml bl5
              rintro e w9 ⟨rfl, o9⟩
              have HWB9 := Lib.hid (o9.blk HWB8.out (by simp))
              have HH9 := Lib.hid (HH8.out.keep o9)
              have HA9 := Lib.hid (HA8.out.keep o9)
              have HW9 := Lib.hid (ownsRow_only o9 HW8.out (fun _ _ => by simp))
              obtain ⟨v0, vl⟩ := HWB9.out.facts1
              have fv := HWB9.out.frozen 0
              clear o9 HWB8 HH8 HA8 HW8
              go_wp2_with (fail)
              go_roundw
              case rel => exact ⟨j + 1, by go_num, by omega, by rw [show ((min (j + 1) T : Nat) : Int) = (j : Int) by omega]; exact HWB9.out, HH9.out, HA9.out, HW9.out⟩
              case measure => simp [intOf]; omega
          · have hmin : ((min j T : Nat) : Int) = (T : Int) := by omega
            rw [hmin] at HWB8
            have hTj : ((T : Int) == (j : Int)) = false := by simp; omega
            have hTj2 : decide ((T : Int) = (j : Int)) = false := by simp; omega
            cases hlo : lowE y with
            | true =>
              replace hlo : decide (y.2 ≤ 4) = true := hlo
              have t := low_any y.2 (b := true) hlo w8
              go_wp2_with (fail)
              refine t.mono ?_
              clear t d0 d1 m0 ml bl5
              rintro e w9 ⟨rfl, o9⟩
              have HWB9 := Lib.hid (o9.blk HWB8.out (by simp))
              have HH9 := Lib.hid (HH8.out.keep o9)
              have HA9 := Lib.hid (HA8.out.keep o9)
              have HW9 := Lib.hid (ownsRow_only o9 HW8.out (fun _ _ => by simp))
              obtain ⟨v0, vl⟩ := HWB9.out.facts1
              have fv := HWB9.out.frozen 0
              clear o9 HWB8 HH8 HA8 HW8
              go_wp2_with (fail)
              go_roundw
              case rel => exact ⟨j + 1, by go_num, by omega, by rw [show ((min (j + 1) T : Nat) : Int) = (T : Int) by omega]; exact HWB9.out, HH9.out, HA9.out, HW9.out⟩
              case measure => simp [intOf]; omega
            | false =>
              replace hlo : decide (y.2 ≤ 4) = false := hlo
              have t := low_any y.2 (b := false) hlo w8
              go_wp2_with (fail)
              refine t.mono ?_
              clear t d0 d1 m0 ml bl5
              rintro e w9 ⟨rfl, o9⟩
              have HWB9 := Lib.hid (o9.blk HWB8.out (by simp))
              have HH9 := Lib.hid (HH8.out.keep o9)
              have HA9 := Lib.hid (HA8.out.keep o9)
              have HW9 := Lib.hid (ownsRow_only o9 HW8.out (fun _ _ => by simp))
              obtain ⟨v0, vl⟩ := HWB9.out.facts1
              have fv := HWB9.out.frozen 0
              clear o9 HWB8 HH8 HA8 HW8
              go_wp2_with (fail)
              go_roundw
              case rel => exact ⟨j + 1, by go_num, by omega, by rw [show ((min (j + 1) T : Nat) : Int) = (T : Int) by omega]; exact HWB9.out, HH9.out, HA9.out, HW9.out⟩
              case measure => simp [intOf]; omega
        · have hje : j = m.length := by omega
          have hmin : ((min j T : Nat) : Int) = (T : Int) := by omega
          rw [hmin] at hwb
          have jz1 : ¬ (j : Int) < (m.length : Int) := by omega
          obtain ⟨m0, ml⟩ := hAB.mbk.facts1
          have hwbl : wb < wr.heap.size := hwb.lt
          have HWB := Lib.hid hwb
          have HH := Lib.hid hH
          have HA := Lib.hid hAB
          clear hwb hH hAB hW9 hje
          go_wp2_with (fail)
          obtain ⟨nb, hnb⟩ : ∃ nb, wr.heap.size = nb := ⟨_, rfl⟩
          have o10 : Only [] wr (wr.alloc (.cells #[.int .i64 0] 3)) := (Only.refl _ _).alloc _
          have hNB := Blk.new wr 3 #[.int .i64 0]
          have HWB10 := Lib.hid (o10.blk HWB.out (by simp))
          have HH10 := Lib.hid (HH.out.keep o10)
          have HA10 := Lib.hid (HA.out.keep o10)
          rw [hnb] at hNB hwbl ⊢
          have hnbw : w.heap.size ≤ nb := by have := HA.out.o.size; omega
          generalize wr.alloc (.cells #[.int .i64 0] 3) = wn at hNB HWB10 HH10 HA10 ⊢
          clear o10 HWB HH HA hnb m0 ml
          refine (while_any g wn).mono ?_
          rintro e w11 ⟨rfl, rfl⟩
          have o11 : Only [] wn ((wn.alloc (.cells #[.pointer (some ⟨g, 0, none⟩)] 24)).alloc (.cells #[.func (.func 26) #[] #[]] 36)) := ((Only.refl _ _).alloc _).alloc _
          have hhb : Blk ((wn.alloc (.cells #[.pointer (some ⟨g, 0, none⟩)] 24)).alloc (.cells #[.func (.func 26) #[] #[]] 36)) wn.heap.size 24 #[.pointer (some ⟨g, 0, none⟩)] := (Blk.new wn 24 _).alloc _
          have hsb : Blk ((wn.alloc (.cells #[.pointer (some ⟨g, 0, none⟩)] 24)).alloc (.cells #[.func (.func 26) #[] #[]] 36)) (wn.heap.size + 1) 36 #[.func (.func 26) #[] #[]] := by have h := Blk.new (wn.alloc (.cells #[.pointer (some ⟨g, 0, none⟩)] 24)) 36 #[.func (.func 26) #[] #[]]; simpa using h
          have hnl : nb < wn.heap.size := hNB.lt
          go_wp2_with (fail)
          generalize (wn.alloc (.cells #[.pointer (some ⟨g, 0, none⟩)] 24)).alloc (.cells #[.func (.func 26) #[] #[]] 36) = w12 at o11 hhb hsb ⊢
          have hz12 := o11.size
          have hsq := while_seqs (HH10.out.keep o11) hS (by omega) hsb hhb
          have hNB12 := o11.blk hNB (by simp)
          have HA12 := Lib.hid (HA10.out.keep o11)
          have HWB12 := Lib.hid (o11.blk HWB10.out (by simp))
          have HNB12 := Lib.hid hNB12
          have hwz : w.heap.size ≤ w12.heap.size := HA12.out.o.size
          have hsl := hsb.lt
          clear HH10 HA10 HWB10 hNB o11 hhb hsb hNB12
          refine' wp_rangeFunc_seqsT (gf := 35) (lb := #[.pointer (some ⟨wn.heap.size + 1, 0, none⟩), .pointer (some ⟨wn.heap.size, 0, none⟩)]) (vs := valsK (tw m)) (prot := [wn.heap.size + 1]) rfl (enters Try.func35 (by kernel_rfl) rfl)
            hsq (by intro v hv; simp [valsK] at hv; obtain ⟨_, _, _, rfl⟩ := hv; rfl) [nb] (by simp; omega) (by simp; omega)
            (fun k S V => S = [nb] ∧ Only [nb] w12 V ∧ Blk V nb 3 #[.int .i64 (k : Int)] ∧ (k = 0 ∨ (k : Int) < z))
            (fun c S V => c = .exit 5 ∧ S = [nb] ∧ Only [nb] w12 V ∧ ∃ j : Nat, Blk V nb 3 #[.int .i64 (j : Int)] ∧ j ≤ T ∧ 1 ≤ j ∧ z ≤ (j : Int) ∧ (j = 1 ∨ (j : Int) - 1 < z)) ?hI ?hIx ?h0
            _ (fun k V => V) (fun k V => Only.refl [] V) ?assign ?body ?done ?stop
          case assign =>
            intro l k v W K hv hK
            obtain rfl : #[.int .i64 (gt_ (tw m) k).1] = v := by
              unfold valsK at hv
              rw [List.getElem?_map] at hv
              cases hm : (tw m)[k]? with
              | none => rw [hm] at hv; cases hv
              | some e =>
                rw [hm] at hv
                have e2 : gt_ (tw m) k = e := by unfold gt_; rw [hm]; rfl
                rw [e2]
                exact Option.some.inj hv
            clear hv
            gi_wp2
            exact hK
          case hI =>
            rintro k S V1 V2 ⟨rfl, h1, h2, h3⟩ hk
            exact ⟨rfl, h1.keepT hk (Nat.le_refl _), hk.blk h2 (.inr (by simp)), h3⟩
          case hIx =>
            rintro c S V1 V2 ⟨h1, rfl, h2, j, h3, h4⟩ hk
            exact ⟨h1, rfl, h2.keepT hk (Nat.le_refl _), j, hk.blk h3 (.inr (by simp)), h4⟩
          case h0 => exact ⟨rfl, Only.refl _ _, HNB12.out, .inl rfl⟩
          case body =>
            rintro l k vv S V X hv ⟨rfl, hO, hN, hkz⟩ hk
            obtain ⟨e, he⟩ : ∃ e, (tw m)[k]? = some e := by
              unfold valsK at hv
              rw [List.getElem?_map] at hv
              cases hm : (tw m)[k]? with
              | none => rw [hm] at hv; cases hv
              | some e => exact ⟨e, rfl⟩
            have e2 : gt_ (tw m) k = e := by unfold gt_; rw [he]; rfl
            have hkT : k < T := by have := (List.getElem?_eq_some_iff.1 he).1; have := HT.out; omega
            have hme := tw_at he
            have hA := HA12.out.only HNB12.out hO hnbw
            have hW := hO.blk HWB12.out (by simp; omega)
            obtain ⟨b5, q5, hb5, bl5, d0, d1⟩ := row_cell hA.row hme
            subst hb5
            obtain ⟨n0, nl⟩ := hN.facts1
            have nf := hN.frozen 0
            obtain ⟨v0, vl⟩ := hW.facts1
            obtain ⟨m0, ml⟩ := hA.mbk.facts1
            obtain ⟨z0, zl⟩ := hA.sbk.facts1
            have kz0 : (0 : Int) ≤ (k : Int) := by omega
            have kz1 : (k : Int) < (m.length : Int) := by omega
            have hTk : decide ((T : Int) ≤ (k : Int)) = false := by simp; omega
            have hTk' : ¬ (T : Int) ≤ (k : Int) := by omega
            have hnw : ¬ nb = wb := by omega
            have hns : ¬ nb = w.heap.size := fun h => by subst h; exact Blk.ne_ hN hA.sbk (by decide) rfl
            have hns' : ¬ w.heap.size = nb := fun h => hns h.symm
            have hzz := HZ.out
            have hw64 : IntKind.i64.wrap (k : Int) = (k : Int) := by rw [IntKind.wrap_i64]; omega
            simp only [e2]
            have HN := Lib.hid hN
            have HOX := Lib.hid hO
            clear hv he hk e2 hme hA hW hO hN
            by_cases hbr : z ≤ (k : Int) + 1
            · have hd : decide (z ≤ (k : Int) + 1) = true := by simpa using hbr
              gi_wp2_with (fail)
              have oS := only_setCell X ⟨nb, 0, none⟩ (.int .i64 ((k : Int) + 1))
              exact ⟨⟨[nb], ⟨rfl, rfl, HOX.out.trans oS (fun _ h => .inl h), k + 1, by have h := HN.out.set_ 0 (.int .i64 ((k : Int) + 1)); simpa using h, by omega, by omega, by omega, by rcases hkz with h | h <;> omega⟩, fun b hb => .inl hb⟩, oS⟩
            · have hd : decide (z ≤ (k : Int) + 1) = false := by simpa using hbr
              gi_wp2_with (fail)
              have oS := only_setCell X ⟨nb, 0, none⟩ (.int .i64 ((k : Int) + 1))
              exact ⟨⟨[nb], ⟨rfl, HOX.out.trans oS (fun _ h => .inl h), by have h := HN.out.set_ 0 (.int .i64 ((k : Int) + 1)); simpa using h, .inr (by omega)⟩, fun b hb => .inl hb⟩, oS⟩
          case done =>
            rintro D S V hD hDS ⟨rfl, hO, hN, -⟩ hKd
            have e1 : (valsK (tw m)).length = T := by simp only [valsK, List.length_map]; exact HT.out
            rw [e1] at hN
            have hA := HA12.out.only HNB12.out hO hnbw
            have hW := hO.blk HWB12.out (by simp; omega)
            obtain ⟨n0, nl⟩ := hN.facts1
            obtain ⟨v0, vl⟩ := hW.facts1
            obtain ⟨z0, zl⟩ := hA.sbk.facts1
            obtain ⟨r0, rl⟩ := hA.rbk.facts1
            have rf := hA.rbk.frozen 0
            have hrb12 := HA12.out.rbk.lt
            have HA := Lib.hid hA
            have HD := Lib.hid hKd
            have hzz := HZ.out
            clear hA hW hO hN hKd
            go_wp2_with (fail)
            have hr2 := HA.out.rbk.set_ 0 (.bool true)
            have hO2 := HA.out.o.setCell (p := ⟨w.heap.size + 1, 0, none⟩) (.inr (by simp)) (.bool true)
            have hK3 := ((only_setCell V ⟨w.heap.size + 1, 0, none⟩ (.bool true)).block D (Array.getElem?_eq_some_iff.1 HD.out).1 (by simp; omega)).trans HD.out
            refine ⟨by simp, .inl ⟨_, _, rfl, run_takeDeferred hK3, ?_⟩⟩
            have hk := KeepC.putObj (B := D) (o' := .deferred none) hK3 rfl (Nat.le_refl _)
            obtain ⟨x0, _⟩ := (hk.blk hr2).facts1
            exact ⟨.bool true, by simp [results, Try.results7, go_sem, x0], rfl, hO2.keepC hk (by omega)⟩
          case stop =>
            rintro D c S V hD hDS ⟨rfl, rfl, hO, j2, hN, hj1, hj2, hj3, hj4⟩ hKd
            have hA := HA12.out.only HNB12.out hO hnbw
            have hW := hO.blk HWB12.out (by simp; omega)
            obtain ⟨n0, nl⟩ := hN.facts1
            obtain ⟨v0, vl⟩ := hW.facts1
            obtain ⟨z0, zl⟩ := hA.sbk.facts1
            obtain ⟨r0, rl⟩ := hA.rbk.facts1
            have rf := hA.rbk.frozen 0
            have hrb12 := HA12.out.rbk.lt
            have HA := Lib.hid hA
            have HD := Lib.hid hKd
            have hzz := HZ.out
            clear hA hW hO hKd
            by_cases hjm : j2 = T
            · rw [hjm] at n0
              clear hN hjm
              go_wp2_with (fail)
              have hr2 := HA.out.rbk.set_ 0 (.bool true)
              have hO2 := HA.out.o.setCell (p := ⟨w.heap.size + 1, 0, none⟩) (.inr (by simp)) (.bool true)
              have hK3 := ((only_setCell V ⟨w.heap.size + 1, 0, none⟩ (.bool true)).block D (Array.getElem?_eq_some_iff.1 HD.out).1 (by simp; omega)).trans HD.out
              refine ⟨by simp, .inl ⟨_, _, rfl, run_takeDeferred hK3, ?_⟩⟩
              have hk := KeepC.putObj (B := D) (o' := .deferred none) hK3 rfl (Nat.le_refl _)
              obtain ⟨x0, _⟩ := (hk.blk hr2).facts1
              exact ⟨.bool true, by simp [results, Try.results7, go_sem, x0], rfl, hO2.keepC hk (by omega)⟩
            · have hd1 : ((j2 : Int) == (T : Int)) = false := by simp; omega
              have hd2 : decide ((j2 : Int) = (T : Int)) = false := by simp; omega
              have hd3 : decide ((j2 : Int) < (T : Int)) = true := by simp; omega
              have hmax : max z 1 = (j2 : Int) := by omega
              have hmax2 : (if z < 1 then 1 else z) = (j2 : Int) := by split <;> omega
              have hmax3 : (if 1 ≤ z then z else 1) = (j2 : Int) := by split <;> omega
              clear hN
              go_wp2_with (fail)
              have hr2 := HA.out.rbk.set_ 0 (.bool true)
              have hO2 := HA.out.o.setCell (p := ⟨w.heap.size + 1, 0, none⟩) (.inr (by simp)) (.bool true)
              have hK3 := ((only_setCell V ⟨w.heap.size + 1, 0, none⟩ (.bool true)).block D (Array.getElem?_eq_some_iff.1 HD.out).1 (by simp; omega)).trans HD.out
              refine ⟨by simp, .inl ⟨_, _, rfl, run_takeDeferred hK3, ?_⟩⟩
              have hk := KeepC.putObj (B := D) (o' := .deferred none) hK3 rfl (Nat.le_refl _)
              obtain ⟨x0, _⟩ := (hk.blk hr2).facts1
              exact ⟨.bool true, by simp [results, Try.results7, go_sem, x0], rfl, hO2.keepC hk (by omega)⟩
theorem all_many {A : Option Addr} {cap : Nat} {L : List Ac} {z : Int} {w : World} (hl : 200 < L.length) (hlen : L.length ≤ 9223372036854775807) :
    Calls Try.prog 7 #[.slice A L.length cap, .int .u8 z] w fun e w' => e = .returned (.bool true) ∧ Only [] w w' := by
  have hg : decide ((200 : Int) < (L.length : Int)) = true := by simp; omega
  have hb0 : Blk ((w.alloc (.cells #[.int .u8 z] 5)).alloc (.cells #[.bool false] 4)) (w.heap.size + 1) 4 #[.bool false] := by have h := Blk.new (w.alloc (.cells #[.int .u8 z] 5)) 4 #[.bool false]; simpa using h
  have o0 : Only [] w ((w.alloc (.cells #[.int .u8 z] 5)).alloc (.cells #[.bool false] 4)) := ((Only.refl _ _).alloc _).alloc _
  go_enter Try.func7, Try.ntmps7
  go_wp2_with (fail)
  refine (awake_any _).mono ?_
  rintro e w1 ⟨rfl, o1⟩
  have HB := Lib.hid (o1.blk hb0 (by simp))
  have HO1 := Lib.hid (o0.trans o1 (by simp))
  clear o0 o1 hb0
  go_wp2_with (fail)
  refine (awake_any _).mono ?_
  rintro e w2 ⟨rfl, o2⟩
  have hb2 := o2.blk HB.out (by simp)
  obtain ⟨c0, cl⟩ := hb2.facts1
  have fr := hb2.frozen 0
  have HB2 := Lib.hid hb2
  have HO2 := Lib.hid (HO1.out.trans o2 (by simp))
  clear o2 hb2
  go_wp2_with (fail)
  obtain ⟨e0, _⟩ := (HB2.out.set_ 0 (.bool true)).facts1
  exact bodyPost_ret (v := .bool true) (by simp [results, Try.results7, go_sem, e0]) rfl ⟨rfl, HO2.out.setCell (.inr (by simp)) _⟩
theorem heapall_any {A : Option Addr} {cap : Nat} {L : List Ac} {z : Int} {w : World} (hL : Acs w A L) (hlen : L.length ≤ 9223372036854775807) (hz0 : 0 ≤ z) (hz1 : z ≤ 255) :
    Calls Try.prog 7 #[.slice A L.length cap, .int .u8 z] w fun e w' => e = .returned (.bool true) ∧ Only [] w w' := by
  by_cases hl : 200 < L.length
  · exact all_many hl hlen
  · exact all_few hL (by omega) hz0 hz1
end Go.Proofs.Ytodiemichniehaa
