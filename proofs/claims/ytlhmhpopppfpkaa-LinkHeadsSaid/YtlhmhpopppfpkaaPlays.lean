/- LinkPlays: the law's own walk. -/
import Derived.Test.YtlhmhpopppfpkaaBoth
namespace Go.Proofs.Ytlhmhpopppfpkaa
open Go.RowKit Go.Kx Go.Maps
set_option maxRecDepth 100000

theorem _root_.Go.Kx.Blk.facts4 {w : World} {g : Nat} {t : TypeId} {a b c d : Value} (h : Blk w g t #[a, b, c, d]) : w.cell? ⟨g, 0, none⟩ = some a ∧ w.cell? ⟨g, 1, none⟩ = some b ∧ w.cell? ⟨g, 2, none⟩ = some c ∧ w.cell? ⟨g, 3, none⟩ = some d ∧ g < w.heap.size :=
  ⟨h.cell 0, h.cell 1, h.cell 2, h.cell 3, h.lt⟩
theorem sentM_le (n room : Nat) (Ls : List (Pr × Lane)) (m : List It) (a b v : Int) : (sentM n room Ls m a b v).length ≤ m.length + 1 := by
  unfold sentM
  split
  · simp
  · omega
structure TB (w0 w : World) (g bm n room : Nat) (Ls : List (Pr × Lane)) (mb : Nat) (A : Option Addr) (c : Nat) (m : List It) : Prop where
  nb : NB w0.heap.size w g bm n room Ls
  rn : RN w0.heap.size w mb n room m A c
  off : Off w g bm Ls (rnS mb A)
  o : Only [] w0 w
theorem TA.drop {w0 w : World} {g bm n room : Nat} {Ls : List (Pr × Lane)} {mb : Nat} {A : Option Addr} {c : Nat} {m : List It} {xb : Nat} {cs : Array Value} (h : TA w0 w g bm n room Ls mb A c m xb cs) : TB w0 w g bm n room Ls mb A c m :=
  ⟨h.nb, h.rn, fun x hx => h.off x (List.mem_cons_of_mem _ hx), h.o⟩
theorem TB.add {w0 w : World} {g bm n room : Nat} {Ls : List (Pr × Lane)} {mb : Nat} {A : Option Addr} {c : Nat} {m : List It} (h : TB w0 w g bm n room Ls mb A c m) (cs : Array Value) : TA w0 (w.alloc (.cells cs 32)) g bm n room Ls mb A c m w.heap.size cs := by
  have o : Only [] w (w.alloc (.cells cs 32)) := (Only.refl _ _).alloc _
  have hb := Blk.new w 32 cs
  refine ⟨h.nb.keep o, h.rn.keep o, hb, fun x hx => ?_, fun hx => Nat.lt_irrefl _ (h.rn.below _ hx), h.o.trans o (by simp)⟩
  rcases List.mem_cons.1 hx with rfl | hx
  · exact ⟨hb.lt, fun hm => Nat.lt_irrefl _ (h.nb.below _ hm)⟩
  · have := h.off x hx
    have := o.size
    exact ⟨by omega, (h.off x hx).2⟩
theorem plays_many {A : Option Addr} {cap : Nat} {L : List Ac} {n room : Int} {w : World} (hl : 200 < L.length) (hlen : L.length ≤ 9223372036854775807) :
    Calls Try.prog 4 #[.int .i64 n, .int .i64 room, .slice A L.length cap] w fun e w' => e = .returned (.bool true) ∧ Only [] w w' := by
  have hg : decide ((200 : Int) < (L.length : Int)) = true := by simp; omega
  go_enter Try.func4, Try.ntmps4
  go_wp2_with (fail)
  refine (awake_any _).mono ?_
  rintro e w1 ⟨rfl, o1⟩
  go_wp2_with (fail)
  refine (awake_any _).mono ?_
  rintro e w2 ⟨rfl, o2⟩
  go_wp2_with (fail)
  go_ret
  exact ⟨rfl, o1.trans o2 (by simp)⟩
theorem plays_bad {A : Option Addr} {cap : Nat} {L : List Ac} {n room : Int} {w : World} (hl : L.length ≤ 200) (hbad : n < 1 ∨ 8 < n ∨ room < 1 ∨ 65536 < room) :
    Calls Try.prog 4 #[.int .i64 n, .int .i64 room, .slice A L.length cap] w fun e w' => e = .returned (.bool true) ∧ Only [] w w' := by
  have hg : decide ((200 : Int) < (L.length : Int)) = false := by simp; omega
  have key : decide (n < 1) = true ∨ decide (n < 1) = false ∧ decide (8 < n) = true ∨ decide (n < 1) = false ∧ decide (8 < n) = false ∧ decide (room < 1) = true ∨ decide (n < 1) = false ∧ decide (8 < n) = false ∧ decide (room < 1) = false ∧ decide (65536 < room) = true := by
    simp; omega
  have t := fun w => new_bad_net hbad w
  clear hbad
  rcases key with h1 | ⟨h1, h2⟩ | ⟨h1, h2, h3⟩ | ⟨h1, h2, h3, h4⟩
  all_goals
    go_enter Try.func4, Try.ntmps4
    go_wp2_with (fail)
    refine (awake_any _).mono ?_
    rintro e w1 ⟨rfl, o1⟩
    go_wp2_with (fail)
    refine (t _).mono ?_
    rintro e w2 ⟨rfl, o2⟩
    go_wp2_with (fail)
    go_ret
    exact ⟨rfl, o1.trans o2 (by simp)⟩
set_option maxHeartbeats 4000000 in
theorem plays_few {A : Option Addr} {cap : Nat} {L : List Ac} {N R : Nat} {w : World} (hL : Acs w A L) (hl : L.length ≤ 200) (hN : 1 ≤ N ∧ N ≤ 8) (hR : 1 ≤ R ∧ R ≤ 65536) :
    Calls Try.prog 4 #[.int .i64 N, .int .i64 R, .slice A L.length cap] w fun e w' => e = .returned (.bool true) ∧ Only [] w w' := by
  have hg : decide ((200 : Int) < (L.length : Int)) = false := by simp; omega
  have n1 : decide ((N : Int) < 1) = false := by simp; omega
  have n2 : decide ((8 : Int) < (N : Int)) = false := by simp; omega
  have n3 : decide ((R : Int) < 1) = false := by simp; omega
  have n4 : decide ((65536 : Int) < (R : Int)) = false := by simp; omega
  have HL := Lib.hid hL
  have t := fun w => new_net N R hN hR w
  clear hL hN hR
  go_enter Try.func4, Try.ntmps4
  go_wp2_with (fail)
  refine (awake_any _).mono ?_
  rintro e w1 ⟨rfl, o1⟩
  have HO1 := Lib.hid o1
  clear o1
  go_wp2_with (fail)
  refine (t w1).mono ?_
  rintro e w2 ⟨rfl, h2, o2⟩
  have hz := h2.blk.lt
  have hB : TB w (w2.alloc (.cells #[.int .i64 N, .int .i64 R, .slice none 0 0] 41)) (w1.heap.size + 1) w1.heap.size N R [] w2.heap.size none 0 [] := by
    have o3 : Only [] w2 (w2.alloc (.cells #[.int .i64 N, .int .i64 R, .slice none 0 0] 41)) := (Only.refl _ _).alloc _
    have hb := Blk.new w2 41 #[.int .i64 N, .int .i64 R, .slice none 0 0]
    refine ⟨(h2.keep o3).low HO1.out.size, ⟨hb, World.ownsRow_nil _ _ 52 3, Nat.le_trans HO1.out.size o2.size⟩, fun x hx => ?_, (HO1.out.trans o2 (by simp)).trans o3 (by simp)⟩
    simp [rnS] at hx
    subst hx
    exact ⟨hb.lt, fun hm => Nat.lt_irrefl _ (h2.below _ hm)⟩
  have HB := Lib.hid hB
  clear t HO1 h2 o2 hB
  go_wp2_with (fail)
  generalize w2.alloc (.cells #[.int .i64 N, .int .i64 R, .slice none 0 0] 41) = w3 at HB ⊢
  obtain ⟨mb, hmb⟩ : ∃ mb, w2.heap.size = mb := ⟨_, rfl⟩
  rw [hmb] at HB ⊢
  clear hmb n1 n2 n3 n4 hz
  go_loopw [7, 10] (fun x u wr => ∃ (i g bm : Nat) (Ls : List (Pr × Lane)) (A : Option Addr) (c : Nat) (m : List It), x = .pointer (some ⟨g, 0, none⟩) ∧ u = .int .i64 i ∧ i ≤ L.length ∧ m.length ≤ i ∧ Ls.length ≤ i ∧ Rel Ls m ∧ TB w wr g bm N R Ls mb A c m) (fun _ u _ => L.length - (intOf u).toNat)
  case atStart => exact ⟨0, _, _, [], none, 0, [], rfl, rfl, Nat.zero_le _, Nat.le_refl _, Nat.le_refl _, Rel.nil, HB.out⟩
  case round =>
    clear HB
    obtain ⟨i, g, bm, Ls, A1, c1, m, rfl, rfl, hi, hm, hls, hRel, hB⟩ := hrel
    have HRel := Lib.hid hRel
    by_cases hlt : i < L.length
    · obtain ⟨⟨⟨hd0, hd1⟩, ha, hb, hv⟩, p, o, rfl, pb, c0, c1', c2, c3⟩ := (HL.out.only hB.o) i L[i] (List.getElem?_eq_getElem hlt)
      generalize L[i] = q at hd0 hd1 ha hb hv c0 c1' c2 c3
      obtain ⟨d, a, b, v⟩ := q
      dsimp only at hd0 hd1 ha hb hv c0 c1' c2 c3
      have iz0 : (0 : Int) ≤ (i : Int) := by omega
      have iz1 : (i : Int) < (L.length : Int) := by omega
      have hT := hB.add #[.int .u8 d, .int .i64 a, .int .i64 b, .int .i64 v]
      have hc := hT.cnt hRel (a, b)
      obtain ⟨x0, x1, x2, x3, xl⟩ := hT.act.facts4
      have HT := Lib.hid hT
      have HV := Lib.hid hv
      clear hT hB hRel hv
      rcases (show d % 5 = 0 ∨ d % 5 = 1 ∨ d % 5 = 2 ∨ d % 5 = 3 ∨ d % 5 = 4 by omega) with h8 | h8 | h8 | h8 | h8
      · as_aux_lemma =>
        go_wp2_with (fail)
        go_region_held3 (fun w' => w'.cell? ⟨wr.heap.size, 1, none⟩ = some (.int .i64 a) ∧ w'.cell? ⟨wr.heap.size, 2, none⟩ = some (.int .i64 b) ∧ w'.cell? ⟨wr.heap.size, 3, none⟩ = some (.int .i64 v)) (first | (go_keep; done) | (refine ⟨?_, ?_, ?_⟩ <;> (go_simp; done)))
          (first
            | (go_at_call 10; refine (send_ta (HT.out.keep (by first | exact Only.refl [] _ | exact Only.drew (Only.refl [] _) | exact Only.drewN (Only.refl [] _) _)) v ha hb (by omega)).mono ?_; rintro e w5 ⟨rfl, Ls', h5, l5, r5⟩; have HT := Lib.hid h5; have HR5 := Lib.hid r5; clear h5 r5 x0 x1 x2 x3 xl; obtain ⟨x0, x1, x2, x3, xl⟩ := HT.out.act.facts4)
            | (go_at_call 13; refine (rsend_ta (Lq := Ls) (HT.out.keep (by first | exact Only.refl [] _ | exact Only.drew (Only.refl [] _) | exact Only.drewN (Only.refl [] _) _)) v hc (by omega)).mono ?_; rintro e w5 ⟨rfl, A', c', h5⟩; have HT := Lib.hid h5; clear h5 x0 x1 x2 x3 xl; obtain ⟨x0, x1, x2, x3, xl⟩ := HT.out.act.facts4))
        all_goals
          have r6 := HR5.out m HRel.out
          have lm := sentM_le N R Ls m a b v
          generalize sentM N R Ls m a b v = m' at HT r6 lm
          clear HR5 hc

          have HRl := Lib.hid r6
          clear r6
          obtain ⟨y0, y1, y2, yl⟩ := HT.out.rn.blk.facts3
          go_wp2_with (fail)
          go_region_held3 (fun w' => w'.cell? ⟨mb, 2, none⟩ = some (.slice A' m'.length c')) (first | (go_keep; done) | (go_simp; done))
            (first | (go_at_call 12; refine (len_ta (HT.out.keep (by first | exact Only.refl [] _ | exact Only.drew (Only.refl [] _) | exact Only.drewN (Only.refl [] _) _)) HRl.out (by omega)).mono ?_; rintro e w7 ⟨rfl, h7⟩; have HT := Lib.hid h7; clear h7 y0 y1 y2 yl; obtain ⟨y0, y1, y2, yl⟩ := HT.out.rn.blk.facts3))
          all_goals
            go_wp2_with (fail)
            go_roundw
            case rel => exact ⟨i + 1, g, bm, Ls', A', c', m', rfl, by go_num, by omega, by omega, by omega, HRl.out, HT.out.drop⟩
            case measure => simp [intOf]; omega
      · as_aux_lemma =>
        go_wp2_with (fail)
        go_region_held3 (fun w' => w'.cell? ⟨wr.heap.size, 1, none⟩ = some (.int .i64 a) ∧ w'.cell? ⟨wr.heap.size, 2, none⟩ = some (.int .i64 b) ∧ w'.cell? ⟨wr.heap.size, 3, none⟩ = some (.int .i64 v)) (first | (go_keep; done) | (refine ⟨?_, ?_, ?_⟩ <;> (go_simp; done)))
          (first
            | (go_at_call 10; refine (send_ta (HT.out.keep (by first | exact Only.refl [] _ | exact Only.drew (Only.refl [] _) | exact Only.drewN (Only.refl [] _) _)) v ha hb (by omega)).mono ?_; rintro e w5 ⟨rfl, Ls', h5, l5, r5⟩; have HT := Lib.hid h5; have HR5 := Lib.hid r5; clear h5 r5 x0 x1 x2 x3 xl; obtain ⟨x0, x1, x2, x3, xl⟩ := HT.out.act.facts4)
            | (go_at_call 13; refine (rsend_ta (Lq := Ls) (HT.out.keep (by first | exact Only.refl [] _ | exact Only.drew (Only.refl [] _) | exact Only.drewN (Only.refl [] _) _)) v hc (by omega)).mono ?_; rintro e w5 ⟨rfl, A', c', h5⟩; have HT := Lib.hid h5; clear h5 x0 x1 x2 x3 xl; obtain ⟨x0, x1, x2, x3, xl⟩ := HT.out.act.facts4))
        all_goals
          have r6 := HR5.out m HRel.out
          have lm := sentM_le N R Ls m a b v
          generalize sentM N R Ls m a b v = m' at HT r6 lm
          clear HR5 hc

          have HRl := Lib.hid r6
          clear r6
          obtain ⟨y0, y1, y2, yl⟩ := HT.out.rn.blk.facts3
          go_wp2_with (fail)
          go_region_held3 (fun w' => w'.cell? ⟨mb, 2, none⟩ = some (.slice A' m'.length c')) (first | (go_keep; done) | (go_simp; done))
            (first | (go_at_call 12; refine (len_ta (HT.out.keep (by first | exact Only.refl [] _ | exact Only.drew (Only.refl [] _) | exact Only.drewN (Only.refl [] _) _)) HRl.out (by omega)).mono ?_; rintro e w7 ⟨rfl, h7⟩; have HT := Lib.hid h7; clear h7 y0 y1 y2 yl; obtain ⟨y0, y1, y2, yl⟩ := HT.out.rn.blk.facts3))
          all_goals
            go_wp2_with (fail)
            go_roundw
            case rel => exact ⟨i + 1, g, bm, Ls', A', c', m', rfl, by go_num, by omega, by omega, by omega, HRl.out, HT.out.drop⟩
            case measure => simp [intOf]; omega
      · as_aux_lemma =>
        go_wp2_with (fail)
        go_region_held3 (fun w' => w'.cell? ⟨wr.heap.size, 1, none⟩ = some (.int .i64 a) ∧ w'.cell? ⟨wr.heap.size, 2, none⟩ = some (.int .i64 b) ∧ w'.cell? ⟨wr.heap.size, 3, none⟩ = some (.int .i64 v)) (first | (go_keep; done) | (refine ⟨?_, ?_, ?_⟩ <;> (go_simp; done)))
          (first
            | (go_at_call 10; refine (send_ta (HT.out.keep (by first | exact Only.refl [] _ | exact Only.drew (Only.refl [] _) | exact Only.drewN (Only.refl [] _) _)) v ha hb (by omega)).mono ?_; rintro e w5 ⟨rfl, Ls', h5, l5, r5⟩; have HT := Lib.hid h5; have HR5 := Lib.hid r5; clear h5 r5 x0 x1 x2 x3 xl; obtain ⟨x0, x1, x2, x3, xl⟩ := HT.out.act.facts4)
            | (go_at_call 13; refine (rsend_ta (Lq := Ls) (HT.out.keep (by first | exact Only.refl [] _ | exact Only.drew (Only.refl [] _) | exact Only.drewN (Only.refl [] _) _)) v hc (by omega)).mono ?_; rintro e w5 ⟨rfl, A', c', h5⟩; have HT := Lib.hid h5; clear h5 x0 x1 x2 x3 xl; obtain ⟨x0, x1, x2, x3, xl⟩ := HT.out.act.facts4))
        all_goals
          have r6 := HR5.out m HRel.out
          have lm := sentM_le N R Ls m a b v
          generalize sentM N R Ls m a b v = m' at HT r6 lm
          clear HR5 hc

          have HRl := Lib.hid r6
          clear r6
          obtain ⟨y0, y1, y2, yl⟩ := HT.out.rn.blk.facts3
          go_wp2_with (fail)
          go_region_held3 (fun w' => w'.cell? ⟨mb, 2, none⟩ = some (.slice A' m'.length c')) (first | (go_keep; done) | (go_simp; done))
            (first | (go_at_call 12; refine (len_ta (HT.out.keep (by first | exact Only.refl [] _ | exact Only.drew (Only.refl [] _) | exact Only.drewN (Only.refl [] _) _)) HRl.out (by omega)).mono ?_; rintro e w7 ⟨rfl, h7⟩; have HT := Lib.hid h7; clear h7 y0 y1 y2 yl; obtain ⟨y0, y1, y2, yl⟩ := HT.out.rn.blk.facts3))
          all_goals
            go_wp2_with (fail)
            go_roundw
            case rel => exact ⟨i + 1, g, bm, Ls', A', c', m', rfl, by go_num, by omega, by omega, by omega, HRl.out, HT.out.drop⟩
            case measure => simp [intOf]; omega
      · as_aux_lemma =>
        go_wp2_with (fail)
        refine (take_ta HT.out ha hb).mono ?_
        rintro e w5 ⟨rfl, h5⟩
        clear x0 x1 x2 x3 xl c0 c1' c2 c3 pb hc
        have hn := (HT.out.nb).nd
        have HT := Lib.hid h5
        clear h5
        obtain ⟨x0, x1, x2, x3, xl⟩ := HT.out.act.facts4
        go_wp2_with (fail)
        refine (rtake_ta (Lq := Ls) HT.out hn HRel.out a b (by omega)).mono ?_
        rintro e w6 ⟨rfl, m', A', c', h6, r6, lm⟩
        have HT := Lib.hid h6
        have lls := tailX_length Ls (a, b)
        clear h6 x0 x1 x2 x3 xl hn

        have HRl := Lib.hid r6
        clear r6
        obtain ⟨y0, y1, y2, yl⟩ := HT.out.rn.blk.facts3
        go_wp2_with (fail)
        go_region_held3 (fun w' => w'.cell? ⟨mb, 2, none⟩ = some (.slice A' m'.length c')) (first | (go_keep; done) | (go_simp; done))
          (first | (go_at_call 12; refine (len_ta (HT.out.keep (by first | exact Only.refl [] _ | exact Only.drew (Only.refl [] _) | exact Only.drewN (Only.refl [] _) _)) HRl.out (by omega)).mono ?_; rintro e w7 ⟨rfl, h7⟩; have HT := Lib.hid h7; clear h7 y0 y1 y2 yl; obtain ⟨y0, y1, y2, yl⟩ := HT.out.rn.blk.facts3))
        all_goals
          go_wp2_with (fail)
          go_roundw
          case rel => exact ⟨i + 1, g, bm, tailX Ls (a, b), A', c', m', rfl, by go_num, by omega, by omega, by omega, HRl.out, HT.out.drop⟩
          case measure => simp [intOf]; omega
      · as_aux_lemma =>
        go_wp2_with (fail)
        refine (copy_ta HT.out (by omega)).mono ?_
        rintro e w5 ⟨cg, cm, Cs, rfl, h5, l5, r5⟩
        have r6 := r5 m HRel.out
        have HT := Lib.hid h5
        clear h5 r5 x0 x1 x2 x3 xl c0 c1' c2 c3 pb hc HRel
        obtain ⟨x0, x1, x2, x3, xl⟩ := HT.out.ta.act.facts4
        go_wp2_with (fail)
        refine (send_tc HT.out v ha hb (by omega)).mono ?_
        rintro e w6 ⟨rfl, Ls', h6⟩
        have HT := Lib.hid h6
        clear h6 x0 x1 x2 x3 xl
        obtain ⟨x0, x1, x2, x3, xl⟩ := HT.out.ta.act.facts4
        go_wp2_with (fail)
        refine (take_tc HT.out hb ha).mono ?_
        rintro e w7 ⟨z1, z2, rfl, h7⟩
        have HT := Lib.hid h7.swap
        clear h7 x0 x1 x2 x3 xl
        obtain ⟨x0, x1, x2, x3, xl⟩ := HT.out.act.facts4

        have HRl := Lib.hid r6
        clear r6
        obtain ⟨y0, y1, y2, yl⟩ := HT.out.rn.blk.facts3
        go_wp2_with (fail)
        go_region_held3 (fun w' => w'.cell? ⟨mb, 2, none⟩ = some (.slice A1 m.length c1)) (first | (go_keep; done) | (go_simp; done))
          (first | (go_at_call 12; refine (len_ta (HT.out.keep (by first | exact Only.refl [] _ | exact Only.drew (Only.refl [] _) | exact Only.drewN (Only.refl [] _) _)) HRl.out (by omega)).mono ?_; rintro e w7 ⟨rfl, h7⟩; have HT := Lib.hid h7; clear h7 y0 y1 y2 yl; obtain ⟨y0, y1, y2, yl⟩ := HT.out.rn.blk.facts3))
        all_goals
          go_wp2_with (fail)
          go_roundw
          case rel => exact ⟨i + 1, cg, cm, Cs, A1, c1, m, rfl, by go_num, by omega, by omega, by omega, HRl.out, HT.out.drop⟩
          case measure => simp [intOf]; omega
    · have iz1 : ¬ (i : Int) < (L.length : Int) := by omega
      have HO := Lib.hid hB.o
      clear hB hRel HRel
      go_wp2_with (fail)
      go_ret
      exact ⟨rfl, HO.out⟩
theorem linkplays_any {A : Option Addr} {cap : Nat} {L : List Ac} {n room : Int} {w : World} (hL : Acs w A L) (hlen : L.length ≤ 9223372036854775807) :
    Calls Try.prog 4 #[.int .i64 n, .int .i64 room, .slice A L.length cap] w fun e w' => e = .returned (.bool true) ∧ Only [] w w' := by
  by_cases h : 200 < L.length
  · exact plays_many h hlen
  · by_cases hbad : n < 1 ∨ 8 < n ∨ room < 1 ∨ 65536 < room
    · exact plays_bad (by omega) hbad
    · obtain ⟨N, rfl⟩ : ∃ N : Nat, n = N := ⟨n.toNat, by omega⟩
      obtain ⟨R, rfl⟩ : ∃ R : Nat, room = R := ⟨room.toNat, by omega⟩
      exact plays_few hL (by omega) (by omega) (by omega)
end Go.Proofs.Ytlhmhpopppfpkaa
