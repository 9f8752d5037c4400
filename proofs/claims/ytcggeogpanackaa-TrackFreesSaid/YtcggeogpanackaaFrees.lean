/- TrackFrees: the law's own walk. -/
import Derived.Test.YtcggeogpanackaaFrees1
import Derived.Test.YtcggeogpanackaaRangeA
namespace Go.Proofs.Ytcggeogpanackaa
open Go.RowKit Go.Kx
attribute [local go_sem] Oper.semAt_some
set_option maxRecDepth 100000

theorem below_of_only {B : Nat} {S : List Nat} {w w' : World} (h : Only S w w') : Only S w w' := h
/-- boxes a law keeps: all that lies below B and these -/
theorem frees_many {A : Option Addr} {cap : Nat} {L : List St} {a b : St} {w : World} (hl : 200 < L.length) (hlen : L.length ≤ 9223372036854775807) :
    Calls Try.prog 4 #[.slice A L.length cap, .agg #[.int .i64 a.1.1, .int .i64 a.1.2, .int .i64 a.2], .agg #[.int .i64 b.1.1, .int .i64 b.1.2, .int .i64 b.2]] w fun e w' => e = .returned (.bool true) ∧ Only [] w w' := by
  have hg : decide ((200 : Int) < (L.length : Int)) = true := by simp; omega
  go_enter Try.func4, Try.ntmps4
  go_wp2_with (fail)
  refine (awake_any _).mono ?_
  rintro e w1 ⟨rfl, o1⟩
  have hb := o1.blk (t := 4) (cs := #[.bool false]) (g := w.heap.size + 1 + 1) (by have h := Blk.new ((w.alloc (.cells #[.int .i64 a.1.1, .int .i64 a.1.2, .int .i64 a.2] 26)).alloc (.cells #[.int .i64 b.1.1, .int .i64 b.1.2, .int .i64 b.2] 26)) 4 #[.bool false]; simpa using h) (by simp)
  have O1 : Only [] w w1 := ((((Only.refl [] w).alloc _).alloc _).alloc _).trans o1 (by simp)
  have HO1 := Lib.hid O1
  clear O1 o1
  go_wp2_with (fail)
  refine (awake_any _).mono ?_
  rintro e w2 ⟨rfl, o2⟩
  obtain ⟨c0, cl⟩ := (o2.blk hb (by simp)).facts1
  have fr := (o2.blk hb (by simp)).frozen 0
  have HO2 := Lib.hid (HO1.out.trans o2 (by simp))
  clear o2
  go_wp2_with (fail)
  exact bodyPost_ret (v := .bool true) (by simp [results, Try.results4, go_sem, c0]) rfl ⟨rfl, HO2.out.setCell (.inr (by simp; omega)) _⟩

set_option maxHeartbeats 4000000 in
theorem frees_few {A : Option Addr} {cap : Nat} {L : List St} {a b : St} {w : World} (hL : Stamps w A L) (hl : L.length ≤ 200) (oa : a.ok) (ob : b.ok) :
    Calls Try.prog 4 #[.slice A L.length cap, .agg #[.int .i64 a.1.1, .int .i64 a.1.2, .int .i64 a.2], .agg #[.int .i64 b.1.1, .int .i64 b.1.2, .int .i64 b.2]] w fun e w' => e = .returned (.bool true) ∧ Only [] w w' := by
  have hg : decide ((200 : Int) < (L.length : Int)) = false := by simp; omega
  have HL := Lib.hid hL
  clear hL
  refine calls_marks Try.func4 rfl ?_
  simp only [Try.ntmps4, List.size_toArray, List.length_cons, List.length_nil, Nat.reduceAdd, Nat.reduceSub, Array.replicate_succ, Array.replicate_zero, List.push_toArray, List.append_toArray, List.nil_append, List.cons_append]
  obtain ⟨W3, hW3⟩ : ∃ W3, ((w.alloc (.cells #[.int .i64 a.1.1, .int .i64 a.1.2, .int .i64 a.2] 26)).alloc (.cells #[.int .i64 b.1.1, .int .i64 b.1.2, .int .i64 b.2] 26)).alloc (.cells #[.bool false] 4) = W3 := ⟨_, rfl⟩
  have ba : Blk W3 w.heap.size 26 #[.int .i64 a.1.1, .int .i64 a.1.2, .int .i64 a.2] := by rw [← hW3]; exact ((Blk.new w 26 _).alloc _).alloc _
  have bb : Blk W3 (w.heap.size + 1) 26 #[.int .i64 b.1.1, .int .i64 b.1.2, .int .i64 b.2] := by rw [← hW3]; have h := Blk.new (w.alloc (.cells #[.int .i64 a.1.1, .int .i64 a.1.2, .int .i64 a.2] 26)) 26 #[.int .i64 b.1.1, .int .i64 b.1.2, .int .i64 b.2]; simpa using h.alloc _
  have br : Blk W3 (w.heap.size + 1 + 1) 4 #[.bool false] := by rw [← hW3]; have h := Blk.new ((w.alloc (.cells #[.int .i64 a.1.1, .int .i64 a.1.2, .int .i64 a.2] 26)).alloc (.cells #[.int .i64 b.1.1, .int .i64 b.1.2, .int .i64 b.2] 26)) 4 #[.bool false]; simpa using h
  have oo : Only [] w W3 := by rw [← hW3]; exact (((Only.refl [] w).alloc _).alloc _).alloc _
  go_wp2_with (fail)
  refine (awake_any _).mono ?_
  rintro e w4 ⟨rfl, o4⟩
  have K4 := Lib.hid (And.intro (oo.trans o4 (by simp)) (And.intro (o4.blk ba (by simp)) (And.intro (o4.blk bb (by simp)) (o4.blk br (by simp)))))
  have hs4 := o4.size
  have hlb := br.lt
  clear o4 oo ba bb br
  go_wp2_with (fail)
  refine (new_any (room := 200) (by decide) (by decide) w4 (B := w4.heap.size) (Nat.le_refl _)).mono ?_
  rintro e w5 ⟨rfl, T5, o5⟩
  have HT := Lib.hid T5
  have K5 := Lib.hid (And.intro (K4.out.1.trans o5 (by simp)) (And.intro (o5.blk K4.out.2.1 (by simp)) (And.intro (o5.blk K4.out.2.2.1 (by simp)) (o5.blk K4.out.2.2.2 (by simp)))))
  obtain ⟨g, hgd⟩ : ∃ g, w4.heap.size = g := ⟨_, rfl⟩
  rw [hgd] at HT ⊢
  have hgl : w.heap.size + 1 + 1 < g := by omega
  clear T5 o5 K4 hs4 hlb hgd
  go_wp2_with (fail)
  go_loopw [9, 10] (fun n i wr => ∃ (k : Nat) (A1 : Option Addr) (c1 : Nat) (E : List En), i = .int .i64 k ∧ n = .int .i64 E.length ∧ k ≤ L.length ∧ E.length ≤ k ∧ Trk E ∧ Cnt E ∧ TB g wr g 200 E A1 c1 ∧ Only [] w wr ∧ Blk wr w.heap.size 26 #[.int .i64 a.1.1, .int .i64 a.1.2, .int .i64 a.2] ∧ Blk wr (w.heap.size + 1) 26 #[.int .i64 b.1.1, .int .i64 b.1.2, .int .i64 b.2] ∧ Blk wr (w.heap.size + 1 + 1) 4 #[.bool false]) (fun _ i _ => L.length - (intOf i).toNat)
  case atStart => exact ⟨0, none, 0, [], rfl, rfl, Nat.zero_le _, Nat.le_refl _, Trk.nil, Cnt.nil, HT.out, K5.out.1, K5.out.2.1, K5.out.2.2.1, K5.out.2.2.2⟩
  case round =>
    clear HT K5
    obtain ⟨k, A1, c1, E, rfl, rfl, hk, hE, hTr, hC, hT, hO, ba, bb, br⟩ := hrel
    by_cases hlt : k < L.length
    · obtain ⟨os, b1, o1, hA, hb, c0, c1', c2⟩ := (HL.out.only hO) k L[k] (List.getElem?_eq_getElem hlt)
      generalize L[k] = s at os c0 c1' c2
      subst hA
      have HT := Lib.hid hT
      have HTr := Lib.hid hTr
      have HC := Lib.hid hC
      have K1 := Lib.hid (And.intro hO (And.intro ba (And.intro bb br)))
      clear hT hTr hC hO ba bb br
      go_wp2_with (fail)
      refine (of_any s _).mono ?_
      rintro e w6 ⟨rfl, o6⟩
      have T6 := HT.out.keep o6
      have hsz := T6.blk.lt
      have hp := put_any (s := s) (x := (E.length : Int)) T6 HTr.out os (by omega) (by omega)
      go_wp2_with (fail)
      refine hp.mono ?_
      clear hp
      rintro e w7 ⟨rfl, A2, c2', T7, o7, -⟩
      have hSg : ∀ y ∈ g :: A1.toList.map (·.block), g ≤ y := T6.above
      have K7 := Lib.hid (And.intro ((K1.out.1.trans o6 (by simp)).trans o7 (fun y hy => .inr (by have := hSg y hy; omega)))
        (And.intro (o7.blk (o6.blk K1.out.2.1 (by simp)) (fun h => by have := hSg _ h; omega)) (And.intro (o7.blk (o6.blk K1.out.2.2.1 (by simp)) (fun h => by have := hSg _ h; omega)) (o7.blk (o6.blk K1.out.2.2.2 (by simp)) (fun h => by have := hSg _ h; omega)))))
      have HT7 := Lib.hid T7
      have hpl := put_len E 200 s (E.length : Int)
      have hpl2 := put_len_le E 200 s (E.length : Int)
      have HTr7 := Lib.hid (HTr.out.put os (x := (E.length : Int)) (by unfold I64; omega) 200)
      have HC7 := Lib.hid (HC.out.put 200 s)
      generalize putL E 200 s (E.length : Int) = E2 at HT7 hpl hpl2 HTr7 HC7
      clear T6 T7 o6 o7 K1 hSg c0 c1' c2 HT HTr HC
      by_cases hz : putE E 200 s = 0
      · rw [if_pos hz] at hpl
        rw [hz]
        go_wp2_with (fail)
        go_roundw
        case rel => exact ⟨k + 1, A2, c2', E2, by go_num, by rw [hpl], by omega, by omega, HTr7.out, HC7.out, HT7.out, K7.out.1, K7.out.2.1, K7.out.2.2.1, K7.out.2.2.2⟩
        case measure => simp [intOf]; omega
      · rw [if_neg hz] at hpl
        have hzb : (putE E 200 s == 0) = false := by simpa using hz
        have hzd : decide (putE E 200 s = 0) = false := by simpa using hz
        generalize putE E 200 s = z at hz hzb hzd ⊢
        go_wp2_with (fail)
        go_roundw
        case rel => exact ⟨k + 1, A2, c2', E2, by go_num, by rw [hpl], by omega, by omega, HTr7.out, HC7.out, HT7.out, K7.out.1, K7.out.2.1, K7.out.2.2.1, K7.out.2.2.2⟩
        case measure => simp [intOf]; omega
    · obtain rfl : k = L.length := by omega
      obtain ⟨n, hn⟩ : ∃ n, E.length = n := ⟨_, rfl⟩
      rw [hn] at hE ⊢
      have HTr := Lib.hid hTr
      have HC := Lib.hid hC
      have HT := Lib.hid hT
      have K1 := Lib.hid (And.intro hO (And.intro ba (And.intro bb br)))
      obtain ⟨a0, a1, a2, al⟩ := ba.facts3
      clear hTr hC hO ba bb br hT HL
      go_wp2_with (fail)
      refine (of_any a _).mono ?_
      rintro e w6 ⟨rfl, o6⟩
      have T6 := HT.out.keep o6
      go_wp2_with (fail)
      refine (back_tot T6 HTr.out oa (by omega)).mono ?_
      rintro e w7 ⟨v7, rfl, I7, T7, o7⟩
      have K7 := Lib.hid (And.intro ((K1.out.1.trans o6 (by simp)).trans o7 (fun y hy => .inr (by have := T6.above y hy; omega)))
        (And.intro (o7.blk (o6.blk K1.out.2.2.1 (by simp)) (fun h => by have := T6.above _ h; omega)) (o7.blk (o6.blk K1.out.2.2.2 (by simp)) (fun h => by have := T6.above _ h; omega))))
      have hu := uT_le E a
      generalize uT E a = u at I7 T7 hu
      have hs6 : g < w6.heap.size := T6.blk.lt
      have hlow6 := T6.below
      clear a0 a1 a2 al T6 K1 HT o6 o7
      obtain ⟨b0, b1, b2, bl⟩ := K7.out.2.1.facts3
      go_wp2_with (fail)
      refine (of_any b _).mono ?_
      rintro e w8 ⟨rfl, o8⟩
      have T8 := T7.keep o8
      have I8 := I7.keep o8 (by simp)
      go_wp2_with (fail)
      refine (free_tot T8 (HTr.out.take u) ob (by simp; omega)).mono ?_
      rintro e w9 ⟨v9, rfl, I9, T9, o9⟩
      have K9 := Lib.hid (And.intro ((K7.out.1.trans o8 (by simp)).trans o9 (fun y hy => .inr (by have := T8.above y hy; omega)))
        (o9.blk (o8.blk K7.out.2.2 (by simp)) (fun h => by have := T8.above _ h; omega)))
      have J9 := I8.keep o9 hlow6
      have hf := fT_le (E.take u) b
      generalize fT (E.take u) b = f at I9 T9 hf
      have hCf := HC.out
      rw [List.length_take, hn] at hf
      have hfu : f ≤ u := by omega
      have hun : u ≤ n := by rw [hn] at hu; exact hu
      obtain ⟨lf, xf⟩ := cnt_take hCf (show u ≤ E.length by omega) hfu
      obtain ⟨lb, xb⟩ := cnt_drop hCf (show u ≤ E.length by omega)
      rw [hn] at lb xb
      obtain ⟨lm, xm⟩ := cnt_mid hCf (show u ≤ E.length by omega) hfu
      obtain ⟨N, hN⟩ : ∃ N, N = w9.heap.size := ⟨_, rfl⟩
      obtain ⟨AF, cF, rfl, rF⟩ := I9.row (by rw [List.length_map]; exact lf) xf hN
      obtain ⟨AB, cB, rfl, rB⟩ := J9.row lb xb hN
      have hFK : FK w N (w.heap.size + 1 + 1) g ((E.take u).drop f) A1 c1 AF AB f (n - u) (fun i => (n : Int) - 1 - i) w9 :=
        ⟨K9.out.1, K9.out.2, by have := K9.out.2.lt; omega, rF, rB, T9, fun y hy => by have := T9.below y hy; omega, by have := K9.out.1.size; omega⟩
      have H0 := Lib.hid hFK
      have HM := Lib.hid (And.intro lm xm)
      have hul : n - u ≤ 200 := by omega
      clear b0 b1 b2 bl T8 T7 I7 I8 K7 o8 o9 hlow6 hs6 I9 J9 T9 K9 lf xf lb xb rF rB hFK hCf HC HTr lm xm hf hu
      generalize (E.take u).drop f = E2 at H0 HM
      clear hn
      go_wp2_with (fail)
      go_loopw [14] (fun i wr => ∃ k : Nat, i = .int .i64 k ∧ k ≤ f ∧ FK w N (w.heap.size + 1 + 1) g E2 A1 c1 AF AB f (n - u) (fun i => (n : Int) - 1 - i) wr ∧ Blk wr w9.heap.size 3 #[.int .i64 k]) (fun i _ => f - (intOf i).toNat)
      case atStart => exact ⟨0, rfl, Nat.zero_le _, H0.out.step ((Only.refl [] w9).alloc _) (by simp), Blk.new _ _ _⟩
      case round =>
        obtain ⟨k, rfl, hkf, hK, hB⟩ := hrel
        by_cases hlt : k < f
        · obtain ⟨h, rfl, hh1, hh2, c0⟩ := hK.rf k hlt
          obtain ⟨k0, kl⟩ := hB.facts1
          have fr := hB.frozen 0
          have HK := Lib.hid hK
          have HB := Lib.hid hB
          have hNN : ∀ y ∈ [w9.heap.size], N ≤ y := by simp; omega
          have HNN := Lib.hid hNN
          clear hK hB hNN
          go_wp2_with (fail)
          go_region
          go_wp2_with (fail)
          go_roundw
          case rel => exact ⟨k + 1, by go_num, by omega, (HK.out.step (S := [w9.heap.size]) (Only.drew (Only.refl _ _)) HNN.out).step (only_setCell _ _ _) HNN.out, (HB.out.drew).set_ 0 _⟩
          case measure => simp [intOf]; omega
        · obtain rfl : k = f := by omega
          have HK := Lib.hid hK
          have HB := Lib.hid hB
          clear hK hB H0
          go_wp2_with (fail)
          refine (all_any _ (some ⟨g, 0, none⟩) rfl _).mono ?_
          rintro e w11 ⟨rfl, rfl⟩
          have hcb := Blk.new wr 28 #[.pointer (some ⟨g, 0, none⟩)]
          have F11 := HK.out.step ((Only.refl [] wr).alloc (.cells #[.pointer (some ⟨g, 0, none⟩)] 28)) (by simp)
          have B11 := HB.out.alloc (.cells #[.pointer (some ⟨g, 0, none⟩)] 28)
          go_wp2_with (fail)
          have hwl : w.heap.size ≤ (wr.alloc (.cells #[.pointer (some ⟨g, 0, none⟩)] 28)).heap.size := F11.o.size
          have hkb := B11.lt
          generalize wr.alloc (.cells #[.pointer (some ⟨g, 0, none⟩)] 28) = w12 at hcb F11 B11 hwl hkb ⊢
          have hlm := HM.out.1
          have hNN : ∀ y ∈ [w9.heap.size], N ≤ y := by simp; omega
          have HNN := Lib.hid hNN
          clear HK HB hNN
          refine' wp_rangeFunc_seqs (gf := 39) (lb := #[.pointer (some ⟨wr.heap.size, 0, none⟩)]) (vs := vals4 E2) (prot := []) rfl (enters Try.func39 (by kernel_rfl) rfl)
            (all_seqs F11.t (by omega) hcb) (by intro v hv; simp [vals4] at hv; obtain ⟨_, _, _, _, _, rfl⟩ := hv; rfl) [w9.heap.size] (by simp; omega) (by simp)
            (fun j S W => FK w N (w.heap.size + 1 + 1) g E2 A1 c1 AF AB k (n - u) (fun i => (n : Int) - 1 - i) W ∧ Blk W w9.heap.size 3 #[.int .i64 ((k : Int) + (j : Int))] ∧ S = [w9.heap.size])
            (fun _ _ => False) ?hI (fun _ _ _ h _ => h) ?h0 _ ?assign ?body ?done (fun _ _ _ _ h _ => h.elim)
          case assign =>
            intro l j v W K hv hK
            obtain ⟨hj, rfl⟩ : j < E2.length ∧ #[.agg #[.int .i64 (E2.getD j dE).1.1.1, .int .i64 (E2.getD j dE).1.1.2, .int .i64 (E2.getD j dE).1.2], .int .i64 (E2.getD j dE).2] = v := by
              by_cases hj : j < E2.length
              · rw [vals4_at hj] at hv
                refine ⟨hj, ?_⟩
                rw [← Option.some.inj hv]
                simp [List.getD, hj]
              · rw [List.getElem?_eq_none (by simp [vals4]; omega)] at hv; cases hv
            clear hj hv
            gi_wp2
            exact hK
          case hI =>
            rintro j S W1 W2 ⟨h1, h2, h3⟩ hk
            exact ⟨h1.keepC hk hwl, hk.blk h2, h3⟩
          case h0 => exact ⟨F11, by simpa using B11, rfl⟩
          case body =>
            rintro l j vv S W hv ⟨hF, hB, rfl⟩
            have hj : j < E2.length := by
              rcases Nat.lt_or_ge j E2.length with h | h
              · exact h
              · rw [List.getElem?_eq_none (by simp [vals4]; omega)] at hv; cases hv
            have hg : (E2.getD j dE).2 = (k : Int) + j := by
              have h1 := HM.out.2 j hj
              simp only [List.getD, List.getElem?_eq_getElem hj, Option.getD_some]
              exact h1
            clear hv
            obtain ⟨k0, kl⟩ := hB.facts1
            have fr := hB.frozen 0
            have HF := Lib.hid hF
            have HBB := Lib.hid hB
            clear hF hB
            have hg' : (E2[j]?.getD dE).2 = (k : Int) + j := by rw [← hg]; rfl
            first | rw [hg] | rw [hg']
            gi_wp2_with (fail)
            exact ⟨⟨_, ⟨HF.out.step (only_setCell _ _ _) HNN.out, by have h := HBB.out.set_ 0 (.int .i64 ((k : Int) + (j : Int) + 1)); simpa [Int.add_assoc] using h, rfl⟩, fun b hb => .inl hb⟩, only_setCell W ⟨w9.heap.size, 0, none⟩ (.int .i64 ((k : Int) + (j : Int) + 1))⟩
          case done =>
            rintro D S W hD ⟨hF, hB, rfl⟩ hKd
            have e1 : (vals4 E2).length = u - k := by simp [vals4, hlm]
            rw [e1] at hB
            have hDl : D < W.heap.size := (Array.getElem?_eq_some_iff.1 hKd).1
            have hkD : w9.heap.size < D := by omega
            have hrD : w.heap.size + 1 + 1 < D := by have := hF.hr; omega
            have eB : (k : Int) + ((u - k : Nat) : Int) = (u : Int) + (0 : Nat) := by omega
            rw [eB] at hB
            have HF := Lib.hid hF
            have HBB := Lib.hid hB
            have HD := Lib.hid hKd
            have hw0 : IntKind.i64.wrap (((n - u : Nat) : Int) - 1) = ((n - u : Nat) : Int) - 1 := by rw [IntKind.wrap_i64]; omega
            clear hF hB hKd eB
            go_wp2_with (fail)
            go_loopw [17] (fun i wr => ∃ j : Nat, i = .int .i64 (((n - u : Nat) : Int) - 1 - (j : Int)) ∧ j ≤ n - u ∧ FK w N (w.heap.size + 1 + 1) g E2 A1 c1 AF AB k (n - u) (fun i => (n : Int) - 1 - i) wr ∧ Blk wr w9.heap.size 3 #[.int .i64 ((u : Int) + (j : Nat))] ∧ wr.heap[D]? = some (.deferred (some []))) (fun i _ => (intOf i + 1).toNat)
            case atStart => exact ⟨0, by first | (simp; done) | (rw [hw0]; simp), Nat.zero_le _, HF.out, HBB.out, HD.out⟩
            case round =>
              clear HF HBB HD
              obtain ⟨j, rfl, hju, hF, hB, hKd⟩ := hrel
              by_cases hlt : j < n - u
              · obtain ⟨m, hm⟩ : ∃ m, n - u = j + 1 + m := ⟨n - u - 1 - j, by omega⟩
                obtain ⟨h, rfl, hh1, hh2, c0⟩ := hF.rw m (by omega)
                have e2 : ((n - u : Nat) : Int) - 1 - (j : Int) = (m : Int) := by omega
                have e3 : (n : Int) - 1 - (m : Int) = (u : Int) + (j : Nat) := by omega
                dsimp only at c0
                rw [e3] at c0
                rw [e2]
                obtain ⟨k0, kl⟩ := hB.facts1
                have fr := hB.frozen 0
                have HF := Lib.hid hF
                have HBB := Lib.hid hB
                have HD := Lib.hid hKd
                have HM2 := Lib.hid hm
                have hmlt : m < n - u := by omega
                have hm0 : (0 : Int) ≤ (m : Int) := by omega
                have hw64 : IntKind.i64.wrap (m : Int) = (m : Int) := by rw [IntKind.wrap_i64]; omega
                clear hF hB hKd hm e2 e3
                go_wp2_with (fail)
                go_region
                go_wp2_with (fail)
                go_roundw
                case rel =>
                  have hm := HM2.out
                  refine ⟨j + 1, by congr 1; omega, by omega, (HF.out.step (S := [w9.heap.size]) (Only.drew (Only.refl _ _)) HNN.out).step (only_setCell _ _ _) HNN.out, ?_, ?_⟩
                  · have h := (HBB.out.set_ 0 (.int .i64 ((u : Int) + (j : Nat) + 1))).drew
                    simpa [Int.add_assoc] using h
                  · exact ((only_setCell _ _ _).block D (Array.getElem?_eq_some_iff.1 HD.out).1 (by simp <;> omega)).trans HD.out
                case measure => first | (simp [intOf]; done) | (simp [intOf]; omega)
              · obtain rfl : j = n - u := by omega
                have e2 : ((n - u : Nat) : Int) - 1 - ((n - u : Nat) : Int) = -1 := by omega
                have e3 : (u : Int) + ((n - u : Nat) : Int) = (n : Int) := by omega
                rw [e2]
                rw [e3] at hB
                obtain ⟨k0, kl⟩ := hB.facts1
                obtain ⟨r0, rl⟩ := hF.r.facts1
                have fr := hF.r.frozen 0
                have HF := Lib.hid hF
                have HD := Lib.hid hKd
                clear hF hB hKd e2 e3
                go_wp2_with (fail)
                have hr2 := HF.out.r.set_ 0 (.bool true)
                have hO2 := HF.out.o.setCell (p := ⟨w.heap.size + 1 + 1, 0, none⟩) (.inr (by simp; omega)) (.bool true)
                have hK3 := ((only_setCell wr ⟨w.heap.size + 1 + 1, 0, none⟩ (.bool true)).block D (Array.getElem?_eq_some_iff.1 HD.out).1 (by simp <;> omega)).trans HD.out
                refine ⟨by simp, .inl ⟨_, _, rfl, run_takeDeferred hK3, ?_⟩⟩
                have hk := KeepC.putObj (B := D) (o' := .deferred none) hK3 rfl (Nat.le_refl _)
                obtain ⟨q0, _⟩ := (hk.blk hr2).facts1
                exact ⟨.bool true, by simp [results, Try.results4, go_sem, q0], rfl, hO2.keepC hk (by omega)⟩

theorem trackfrees_any {A : Option Addr} {cap : Nat} {L : List St} {a b : St} {w : World} (hL : Stamps w A L) (hlen : L.length ≤ 9223372036854775807) (oa : a.ok) (ob : b.ok) :
    Calls Try.prog 4 #[.slice A L.length cap, .agg #[.int .i64 a.1.1, .int .i64 a.1.2, .int .i64 a.2], .agg #[.int .i64 b.1.1, .int .i64 b.1.2, .int .i64 b.2]] w fun e w' => e = .returned (.bool true) ∧ Only [] w w' := by
  by_cases hl : 200 < L.length
  · exact frees_many hl hlen
  · exact frees_few hL (by omega) oa ob
end Go.Proofs.Ytcggeogpanackaa
