/- LinkAll: the law's own walk. -/
import Derived.Test.YtlhmhpopppfpkaaAllS
import Derived.StillTailTactics
namespace Go.Proofs.Ytlhmhpopppfpkaa
open Go.RowKit Go.Kx Go.Maps
attribute [local go_sem] Oper.semAt_some
set_option maxRecDepth 100000

theorem linkall_many {A : Option Addr} {cap : Nat} {L : List Ac} {n z : Int} {w : World} (hl : 200 < L.length) (hlen : L.length ≤ 9223372036854775807) :
    Calls Try.prog 5 #[.int .u8 n, .slice A L.length cap, .int .u8 z] w fun e w' => e = .returned (.bool true) ∧ Only [] w w' := by
  have hg : decide ((200 : Int) < (L.length : Int)) = true := by simp; omega
  have hb0 : Blk ((w.alloc (.cells #[.int .u8 z] 5)).alloc (.cells #[.bool false] 4)) (w.heap.size + 1) 4 #[.bool false] := by have h := Blk.new (w.alloc (.cells #[.int .u8 z] 5)) 4 #[.bool false]; simpa using h
  have o0 : Only [] w ((w.alloc (.cells #[.int .u8 z] 5)).alloc (.cells #[.bool false] 4)) := ((Only.refl _ _).alloc _).alloc _
  go_enter Try.func5, Try.ntmps5
  go_wp2_with (fail)
  refine (awake_any _).mono ?_
  rintro e w1 ⟨rfl, o1⟩
  have HB := Lib.hid (o1.blk hb0 (by simp))
  have HO1 := Lib.hid (o0.trans o1 (by simp))
  clear o0 o1 hb0
  go_wp2_with (fail)
  refine (awake_any _).mono ?_
  rintro e w2 ⟨rfl, o2⟩
  have hb2 := o2.blk HB.out (by simp)
  obtain ⟨c0, cl⟩ := hb2.facts1
  have fr := hb2.frozen 0
  have HB2 := Lib.hid hb2
  have HO2 := Lib.hid (HO1.out.trans o2 (by simp))
  clear o2 hb2
  go_wp2_with (fail)
  obtain ⟨e0, _⟩ := (HB2.out.set_ 0 (.bool true)).facts1
  exact bodyPost_ret (v := .bool true) (by simp [results, Try.results5, go_sem, e0]) rfl ⟨rfl, HO2.out.setCell (.inr (by simp)) _⟩
/-- the document's net is made -/
def mkN (n : Nat) (w : World) : World := w.alloc (.cells #[.int .i64 n, .int .i64 50, .slice none 0 0] 41)
set_option maxHeartbeats 8000000 in
theorem linkall_few {A : Option Addr} {cap : Nat} {L : List Ac} {n z : Int} {w : World} (hL : Acs w A L) (hl : L.length ≤ 200) (hn : 0 ≤ n ∧ n ≤ 255) (hz : 0 ≤ z ∧ z ≤ 255) :
    Calls Try.prog 5 #[.int .u8 n, .slice A L.length cap, .int .u8 z] w fun e w' => e = .returned (.bool true) ∧ Only [] w w' := by
  have hg : decide ((200 : Int) < (L.length : Int)) = false := by simp; omega
  obtain ⟨N, hNd⟩ : ∃ N : Nat, (1 + n % 8 : Int) = N := ⟨(1 + n % 8).toNat, by omega⟩
  have hN : 1 ≤ N ∧ N ≤ 8 := by omega
  have hn0 := hn.1
  have hn1 := hn.2
  have t := fun w => new_net N 50 hN (by omega) w
  have hb0 : Blk ((w.alloc (.cells #[.int .u8 z] 5)).alloc (.cells #[.bool false] 4)) (w.heap.size + 1) 4 #[.bool false] := by have h := Blk.new (w.alloc (.cells #[.int .u8 z] 5)) 4 #[.bool false]; simpa using h
  have hs0 : Blk ((w.alloc (.cells #[.int .u8 z] 5)).alloc (.cells #[.bool false] 4)) w.heap.size 5 #[.int .u8 z] := by have h := (Blk.new w 5 #[.int .u8 z]).alloc (.cells #[.bool false] 4); exact h
  have o0 : Only [] w ((w.alloc (.cells #[.int .u8 z] 5)).alloc (.cells #[.bool false] 4)) := ((Only.refl _ _).alloc _).alloc _
  have HL := Lib.hid hL
  clear hL
  refine calls_marks Try.func5 rfl ?_
  simp only [Try.ntmps5, List.size_toArray, List.length_cons, List.length_nil, Nat.reduceAdd, Nat.reduceSub, Array.replicate_succ, Array.replicate_zero, List.push_toArray, List.append_toArray, List.nil_append, List.cons_append]
  go_wp2_with (fail)
  obtain ⟨sb, hsb⟩ : ∃ sb, w.heap.size = sb := ⟨_, rfl⟩
  obtain ⟨rb, hrb⟩ : ∃ rb, sb + 1 = rb := ⟨_, rfl⟩
  have hwsb : w.heap.size ≤ sb := by omega
  have hwrb : w.heap.size ≤ rb := by omega
  have hsr : sb ≠ rb := by omega
  rw [hsb] at hb0 hs0 ⊢
  rw [hrb] at hb0 ⊢
  generalize (w.alloc (.cells #[.int .u8 z] 5)).alloc (.cells #[.bool false] 4) = wa at *
  clear hsb hrb
  refine (awake_any _).mono ?_
  rintro e w1 ⟨rfl, o1⟩
  have HS1 := Lib.hid (o1.blk hs0 (by simp))
  have HB1 := Lib.hid (o1.blk hb0 (by simp))
  have HO1 := Lib.hid (o0.trans o1 (by simp))
  clear o0 o1 hb0 hs0
  go_wp2_with (fail)
  refine (t w1).mono ?_
  rintro e w2 ⟨rfl, h2, o2⟩
  have hz2 := h2.blk.lt
  have hB : TB w1 (mkN N w2) (w1.heap.size + 1) w1.heap.size N 50 [] w2.heap.size none 0 [] := by
    have o3 : Only [] w2 (mkN N w2) := (Only.refl _ _).alloc _
    have hb := Blk.new w2 41 #[.int .i64 N, .int .i64 50, .slice none 0 0]
    refine ⟨h2.keep o3, ⟨hb, World.ownsRow_nil _ _ 52 3, o2.size⟩, fun x hx => ?_, o2.trans o3 (by simp)⟩
    simp [rnS] at hx
    subst hx
    exact ⟨hb.lt, fun hm => Nat.lt_irrefl _ (h2.below _ hm)⟩
  have HB := Lib.hid hB
  clear t h2 o2 hB hNd
  go_wp2_with (fail)
  change Code.wp _ _ _ _ (mkN N w2)
  have hzN : w1.heap.size + 1 < (mkN N w2).heap.size := by have : (mkN N w2).heap.size = w2.heap.size + 1 := Array.size_push _; omega
  obtain ⟨mb, hmb⟩ : ∃ mb, w2.heap.size = mb := ⟨_, rfl⟩
  obtain ⟨g, hg1⟩ : ∃ g, w1.heap.size + 1 = g := ⟨_, rfl⟩
  obtain ⟨bm, hbm⟩ : ∃ bm, w1.heap.size = bm := ⟨_, rfl⟩
  have hbmw := HB.out
  rw [hmb, hg1, hbm] at hbmw
  rw [hmb, hg1]
  have HB := Lib.hid hbmw
  have hlow : w1.heap.size ≤ mb := by omega
  clear hbmw hmb hg1 hz2
  generalize mkN N w2 = w3 at HB hzN ⊢
  clear hzN hbm
  go_loopw [11] (fun u wr => ∃ (i : Nat) (Ls : List (Pr × Lane)) (A : Option Addr) (c : Nat) (m : List It), u = .int .i64 i ∧ i ≤ L.length ∧ m.length ≤ i ∧ Ls.length ≤ i ∧ Rel Ls m ∧ DG Ls ∧ TB w1 wr g bm N 50 Ls mb A c m) (fun u _ => L.length - (intOf u).toNat)
  case atStart => exact ⟨0, [], none, 0, [], rfl, Nat.zero_le _, Nat.le_refl _, Nat.le_refl _, Rel.nil, DG.nil, HB.out⟩
  case round =>
    clear HB
    obtain ⟨i, Ls, A1, c1, m, rfl, hi, hm, hls, hRel, hDG, hB⟩ := hrel
    have HRel := Lib.hid hRel
    have HDG := Lib.hid hDG
    have HT := Lib.hid hB
    have HOW := Lib.hid (HO1.out.trans hB.o (by simp))
    by_cases hlt : i < L.length
    · have HAC := HL.out
      obtain ⟨⟨⟨hd0, hd1⟩, ha, hb, hv⟩, p, o, rfl, pb, c0, c1', c2, c3⟩ := (HL.out.only HOW.out) i L[i] (List.getElem?_eq_getElem hlt)
      have cells : ∀ W, Only [] w W → W.cell? ⟨p, o + i * 4 + 1, none⟩ = some (.int .i64 L[i].2.1) ∧ W.cell? ⟨p, o + i * 4 + 2, none⟩ = some (.int .i64 L[i].2.2.1) ∧ W.cell? ⟨p, o + i * 4 + 3, none⟩ = some (.int .i64 L[i].2.2.2) ∧ p < W.heap.size := fun W hW => by
        obtain ⟨_, p', o', e, pb', _, c1, c2, c3⟩ := (HL.out.only hW) i L[i] (List.getElem?_eq_getElem hlt)
        cases e
        exact ⟨c1, c2, c3, pb'⟩
      generalize L[i] = q at hd0 hd1 ha hb hv c0 c1' c2 c3 cells
      obtain ⟨d, a, b, v⟩ := q
      dsimp only at hd0 hd1 ha hb hv c0 c1' c2 c3 cells
      have HCE := Lib.hid cells
      have iz0 : (0 : Int) ≤ (i : Int) := by omega
      have iz1 : (i : Int) < (L.length : Int) := by omega
      have HV := Lib.hid hv
      clear hB hRel hDG hv cells HAC
      by_cases h3 : d % 5 = 3
      · have hd3 : (d % 5 == 3) = true := by simpa using h3
        go_wp2_with (fail)
        go_still_tail 11, (by kernel_rfl)
        go_wp2_with (fail)
        refine (take_tb (HT.out.keep ((Only.refl [] wr).drew)) ha hb).mono ?_
        rintro e w5 ⟨rfl, h5⟩
        have hn5 := HT.out.nb.nd
        have HT5 := Lib.hid h5
        obtain ⟨c1'', c2'', c3'', pb''⟩ := HCE.out w5 (HO1.out.trans h5.o (by simp))
        clear h5 c0 c1' c2 c3 pb
        go_wp2_with (fail)
        go_still_tail 11, (by kernel_rfl)
        go_wp2_with (fail)
        refine (rtake_tb (Lq := Ls) (HT5.out.keep ((Only.refl [] w5).drew)) hn5 HRel.out a b (by omega)).mono ?_
        rintro e w6 ⟨rfl, m', A', c', h6, r6, lm⟩
        have HT6 := Lib.hid h6
        have HR6 := Lib.hid r6
        have lls := tailX_length Ls (a, b)
        have HN5 := Lib.hid hn5
        clear h6 r6 c1'' c2'' c3'' pb'' hn5
        go_wp2_with (fail)
        go_roundw
        case rel => exact ⟨i + 1, tailX Ls (a, b), A', c', m', by go_num, by omega, by omega, by omega, HR6.out, HDG.out.took HN5.out _, HT6.out⟩
        case measure => simp [intOf]; omega
      · have hd3 : (d % 5 == 3) = false := by simpa using h3
        have hc : (laneX Ls (a, b)).length = cntM m (a, b) := by rw [HRel.out.at_, onL_length]
        have HC := Lib.hid hc
        clear hc
        go_wp2_with (fail)
        go_still_tail 16, (by kernel_rfl)
        go_wp2_with (fail)
        refine (send_tb (HT.out.keep ((Only.refl [] wr).drew)) v ha hb (by omega)).mono ?_
        rintro e w5 ⟨rfl, Ls', h5, l5, r5⟩
        have HT5 := Lib.hid h5
        have HR5 := Lib.hid r5
        obtain ⟨c1'', c2'', c3'', pb''⟩ := HCE.out w5 (HO1.out.trans h5.o (by simp))
        clear h5 r5 c0 c1' c2 c3 pb
        go_wp2_with (fail)
        go_still_tail 16, (by kernel_rfl)
        go_wp2_with (fail)
        refine (rsend_tb (Lq := Ls) (HT5.out.keep ((Only.refl [] w5).drew)) v HC.out (by omega)).mono ?_
        rintro e w6 ⟨rfl, A', c', h6⟩
        have HT6 := Lib.hid h6
        have HR6 := Lib.hid (HR5.out m HRel.out)
        have lm := sentM_le N 50 Ls m a b v
        clear h6 c1'' c2'' c3'' pb''
        go_wp2_with (fail)
        go_roundw
        case rel => exact ⟨i + 1, Ls', A', c', _, by go_num, by omega, by omega, by omega, HR6.out, HDG.out.sent HRel.out HR6.out, HT6.out⟩
        case measure => simp [intOf]; omega
    · have iz1 : ¬ (i : Int) < (L.length : Int) := by omega
      have hml : m.length ≤ 200 := by omega
      clear hB hRel hDG hlt hi hm hls
      go_wp2_with (fail)
      refine (rall_any HT.out.rn false hN.2 (by omega)).mono ?_
      rintro e w5 ⟨va, rfl, A5, c5, rfl, ow5, o5⟩
      have HT5 := Lib.hid (HT.out.keep o5)
      have HW5 := Lib.hid ow5
      have HO5 := Lib.hid (HOW.out.trans o5 (by simp))
      have hz5 := o5.size
      clear o5 ow5
      go_wp2_with (fail)
      refine (rall_any HT5.out.rn true hN.2 (by omega)).mono ?_
      rintro e w6 ⟨vh, rfl, A6, c6, rfl, ow6, o6⟩
      have ea := onP_all HRel.out HDG.out N
      have eh := hdP_all HRel.out HDG.out N
      rw [← ea] at HW5 ⊢
      rw [← eh] at ow6 ⊢
      have W5 := ownsRow_only o6 HW5.out (by simp)
      have hla := preA_le (hd := false) (m := m) (n := N) (a := N) (b := 0) hN.2 hN.2 (by omega) (by omega)
      have hlh := preA_le (hd := true) (m := m) (n := N) (a := N) (b := 0) hN.2 hN.2 (by omega) (by omega)
      rw [preA_all, ← ea] at hla
      rw [preA_all, ← eh] at hlh
      have R1 := own_row3 rfl W5
      have R2 := own_row3 rfl ow6
      have hla2 : (onP Ls (prs N)).length ≤ 72000000 := hla
      have HT6 := Lib.hid (HT5.out.keep o6)
      have HO6 := Lib.hid (HO5.out.trans o6 (by simp))
      have hz6 := o6.size
      have f6 : ∀ p, A6 = some p → p.block < w6.heap.size := fun p e => (ow6.lt p.block (by rw [e]; rfl)).2
      have f5 : ∀ p, A5 = some p → p.block < w6.heap.size ∧ wr.heap.size ≤ p.block := fun p e => by have := W5.lt p.block (by rw [e]; rfl); exact ⟨this.2, this.1⟩
      clear HW5 o6 ea eh W5 ow6 hla
      obtain ⟨MA, hMA⟩ : ∃ MA, onP Ls (prs N) = MA := ⟨_, rfl⟩
      obtain ⟨MH, hMH⟩ : ∃ MH, hdP Ls (prs N) = MH := ⟨_, rfl⟩
      rw [hMA] at R1 hla2 ⊢
      rw [hMH] at R2 hlh ⊢
      have HMA := Lib.hid hMA
      have HMH := Lib.hid hMH
      have HR1 := Lib.hid R1
      have HR2 := Lib.hid R2
      clear hMA hMH R1 R2 HT5 HT HRel HDG HO5 HOW
      go_wp2_with (fail)
      have ob : Only [] w6 (((w6.alloc (.cells #[.slice A5 MA.length c5] 39)).alloc (.cells #[.slice A6 MH.length c6] 39)).alloc (.cells #[.int .i64 0] 3)) := (((Only.refl _ _).alloc _).alloc _).alloc _
      have xa0 : Blk (((w6.alloc (.cells #[.slice A5 MA.length c5] 39)).alloc (.cells #[.slice A6 MH.length c6] 39)).alloc (.cells #[.int .i64 0] 3)) w6.heap.size 39 #[.slice A5 MA.length c5] := ((Blk.new w6 39 _).alloc _).alloc _
      have xh0 : Blk (((w6.alloc (.cells #[.slice A5 MA.length c5] 39)).alloc (.cells #[.slice A6 MH.length c6] 39)).alloc (.cells #[.int .i64 0] 3)) (w6.heap.size + 1) 39 #[.slice A6 MH.length c6] := by have h := (Blk.new (w6.alloc (.cells #[.slice A5 MA.length c5] 39)) 39 #[.slice A6 MH.length c6]).alloc (.cells #[.int .i64 0] 3); simpa using h
      have ib0 : Blk (((w6.alloc (.cells #[.slice A5 MA.length c5] 39)).alloc (.cells #[.slice A6 MH.length c6] 39)).alloc (.cells #[.int .i64 0] 3)) (w6.heap.size + 2) 3 #[.int .i64 0] := by have h := Blk.new ((w6.alloc (.cells #[.slice A5 MA.length c5] 39)).alloc (.cells #[.slice A6 MH.length c6] 39)) 3 #[.int .i64 0]; simpa using h
      obtain ⟨xa, hxa⟩ : ∃ xa, w6.heap.size = xa := ⟨_, rfl⟩
      obtain ⟨xh, hxh⟩ : ∃ xh, xa + 1 = xh := ⟨_, rfl⟩
      obtain ⟨ib, hib⟩ : ∃ ib, xh + 1 = ib := ⟨_, rfl⟩
      have hoo : xa < ib ∧ xh < ib := by omega
      have f5' : ∀ p, A5 = some p → p.block < xa ∧ wr.heap.size ≤ p.block := fun p e => by have := f5 p e; omega
      have f6' : ∀ p, A6 = some p → p.block < xa := fun p e => by have := f6 p e; omega
      have hw16 : w1.heap.size ≤ xa := by have := HT6.out.o.size; omega
      have hlow6 : ∀ x, x ∈ g :: netS bm Ls ∨ x ∈ rnS mb A1 → x < xa := fun x hx => by
        rcases hx with hx | hx
        · have := HT6.out.nb.below x hx; omega
        · have := HT6.out.rn.below x hx; omega
      have HLOW := Lib.hid hlow6
      clear hlow6
      rw [hxa] at xa0 xh0 ib0 ⊢
      rw [hxh] at xh0 ⊢
      rw [show xa + 2 = ib by omega] at ib0
      rw [hib]
      have HT7 := Lib.hid (HT6.out.keep ob)
      have HO7 := Lib.hid (HO6.out.trans ob (by simp))
      have HR1' := Lib.hid (HR1.out.only ob)
      have HR2' := Lib.hid (HR2.out.only ob)
      have HXA := Lib.hid xa0
      have HXH := Lib.hid xh0
      have HIB := Lib.hid ib0
      have HFA := Lib.hid f5'
      have HFH := Lib.hid f6'
      clear ob xa0 xh0 ib0 hxa hxh hib f5 f6 f5' f6' HT6 HO6 HR1 HR2
      generalize ((w6.alloc (.cells #[.slice A5 MA.length c5] 39)).alloc (.cells #[.slice A6 MH.length c6] 39)).alloc (.cells #[.int .i64 0] 3) = w7 at *
      have HSB := Lib.hid ((HT7.out.o).blk HS1.out (by simp))
      have HRB := Lib.hid ((HT7.out.o).blk HB1.out (by simp))
      have hsb1 : sb < w1.heap.size := HS1.out.lt
      have hrb1 : rb < w1.heap.size := HB1.out.lt
      refine (nall_any _ _ rfl w7).mono ?_
      rintro e w8 ⟨rfl, rfl⟩
      go_wp2_with (fail)
      have ox1 : Only [] w7 (w7.alloc (.cells #[.pointer (some ⟨g, 0, none⟩)] 24)) := (Only.refl _ _).alloc _
      have hbx1 := Blk.new w7 24 #[.pointer (some ⟨g, 0, none⟩)]
      have hsq1 := nall_seqs (HT7.out.nb.keep ox1) hbx1
      have HNB1 := Lib.hid (HT7.out.keep ox1)
      have HOO1 := Lib.hid (HO7.out.trans ox1 (by simp))
      have HR11 := Lib.hid (HR1'.out.only ox1)
      have HR21 := Lib.hid (HR2'.out.only ox1)
      have HXA1 := Lib.hid (ox1.blk HXA.out (by simp))
      have HXH1 := Lib.hid (ox1.blk HXH.out (by simp))
      have HIB1 := Lib.hid (ox1.blk HIB.out (by simp))
      have HSB1 := Lib.hid (ox1.blk HSB.out (by simp))
      have HRB1 := Lib.hid (ox1.blk HRB.out (by simp))
      have hmw1 : w1.heap.size ≤ (w7.alloc (.cells #[.pointer (some ⟨g, 0, none⟩)] 24)).heap.size := HNB1.out.o.size
      have hib1 : ib < (w7.alloc (.cells #[.pointer (some ⟨g, 0, none⟩)] 24)).heap.size := HIB1.out.lt
      clear hbx1 ox1
      obtain ⟨cb1, hcb1⟩ : ∃ cb, w7.heap.size = cb := ⟨_, rfl⟩
      rw [hcb1] at hsq1 ⊢
      clear hcb1
      generalize w7.alloc (.cells #[.pointer (some ⟨g, 0, none⟩)] 24) = w8 at *
      rw [HMA.out] at hsq1
      refine' wp_rangeFunc_seqsT (gf := 24) (lb := #[.pointer (some ⟨cb1, 0, none⟩)]) (vs := valsN MA) (prot := []) rfl (enters Try.func24 (by kernel_rfl) rfl)
        hsq1 (by intro v hv; simp only [valsN, List.mem_map] at hv; obtain ⟨_, _, rfl⟩ := hv; rfl) [ib] (by simp; omega) (by simp)
        (fun k S V => S = [ib] ∧ Only [ib] w8 V ∧ Blk V ib 3 #[.int .i64 (k : Int)] ∧ (k = 0 ∨ z = 0 ∨ (k : Int) < z))
        (fun c S V => c = .exit 2 ∧ S = [ib] ∧ Only [ib] w8 V ∧ ∃ j : Nat, Blk V ib 3 #[.int .i64 (j : Int)] ∧ (j : Int) = z) ?hI1 ?hIx1 ?h01
        _ (fun k V => V.alloc (.cells #[.int .i64 (gI MA k).1.1, .int .i64 (gI MA k).1.2] 50)) (fun k V => (Only.refl [] V).alloc _) ?assign1 ?body1 ?done1 ?stop1
      case assign1 =>
        intro l0 k v X K hv hKK
        obtain rfl : #[.agg #[.int .i64 (gI MA k).1.1, .int .i64 (gI MA k).1.2], .int .i64 (gI MA k).2] = v := by
          obtain ⟨e, he, rfl⟩ := valsN_of hv
          have e2 : gI MA k = e := by unfold gI; rw [he]; rfl
          rw [e2]
        clear hv
        gi_wp2
        exact hKK
      case hI1 =>
        rintro k S V1 V2 ⟨rfl, h1, h2, h3⟩ hk
        exact ⟨rfl, h1.keepT hk (Nat.le_refl _), hk.blk h2 (.inr (by simp)), h3⟩
      case hIx1 =>
        rintro c S V1 V2 ⟨h1, rfl, h2, j, h3, h4⟩ hk
        exact ⟨h1, rfl, h2.keepT hk (Nat.le_refl _), j, hk.blk h3 (.inr (by simp)), h4⟩
      case h01 => exact ⟨rfl, Only.refl _ _, HIB1.out, .inl rfl⟩
      case body1 =>
        intro l0 k vv S V X hv hI hk
        obtain ⟨rfl, hO, hN, hkz⟩ := hI
        obtain ⟨e, he, rfl⟩ := valsN_of hv
        have e2 : gI MA k = e := by unfold gI; rw [he]; rfl
        have hkM : k < MA.length := (List.getElem?_eq_some_iff.1 he).1
        have hXK := hO.blk HXA1.out (by simp; omega)
        have hSK := hO.blk HSB1.out (by simp; omega)
        have hRow := (HR11.out).besides hO (fun p hp => by have := HFA.out p hp; simp; omega)
        obtain ⟨b, o, hA, hbl, d0, d1, d2⟩ := row3_at hRow he
        subst hA
        have hPK := hk.blk (Blk.new V 50 #[.int .i64 (gI MA k).1.1, .int .i64 (gI MA k).1.2])
        obtain ⟨pb, hpb⟩ : ∃ pb, V.heap.size = pb := ⟨_, rfl⟩
        rw [e2] at hPK ⊢
        rw [hpb] at hPK ⊢
        have HNK := Lib.hid hN
        have HXK := Lib.hid hXK
        have HSK := Lib.hid hSK
        have HPK := Lib.hid hPK
        have HOK := Lib.hid hO
        have HKZ := Lib.hid hkz
        have HIZ := Lib.hid (show (0 : Int) ≤ (k : Int) ∧ (k : Int) < (MA.length : Int) from by omega)
        have HGE := Lib.hid (show decide (MA.length ≤ k) = false from by simp; omega)
        have HCL := Lib.hid (show b < X.drew.heap.size ∧ X.drew.cell? ⟨b, o + k * 3, none⟩ = some (.int .i64 e.1.1) ∧ X.drew.cell? ⟨b, o + k * 3 + 1, none⟩ = some (.int .i64 e.1.2) ∧ X.drew.cell? ⟨b, o + k * 3 + 2, none⟩ = some (.int .i64 e.2) from ⟨hbl, d0, d1, d2⟩)
        clear hN hXK hSK hPK hO hkz hRow hbl d0 d1 d2 hv hk he e2 hkM hpb
        gi_wp2_with (fail)
        refine wpIn_region_relR 32 (Only []) (fr := ?frr1) (tl := ?tlr1) (fun iq v wv => match iq with
          | 0 => v = .int .i64 (k : Int)
          | 1 => v = .slice (some ⟨b, o, none⟩) MA.length c5
          | 2 => v = .int .i64 (MA.length : Nat)
          | 3 => v = .bool false
          | 4 => v = .bool false
          | 5 => v = .pointer (some ⟨pb, 0, none⟩)
          | 6 => v = .int .i64 e.1.1
          | 7 => v = .slice (some ⟨b, o, none⟩) MA.length c5
          | 8 => v = .int .i64 (k : Int)
          | 9 => v = .pointer (some ⟨b, o + k * 3, none⟩)
          | 10 => v = .pointer (some ⟨b, o + k * 3, none⟩)
          | 11 => v = .int .i64 e.1.1
          | 12 => v = .bool false
          | 13 => v = .bool false
          | 14 => v = .bool false
          | 15 => v = .pointer (some ⟨pb, 1, none⟩)
          | 16 => v = .int .i64 e.1.2
          | 17 => v = .slice (some ⟨b, o, none⟩) MA.length c5
          | 18 => v = .int .i64 (k : Int)
          | 19 => v = .pointer (some ⟨b, o + k * 3, none⟩)
          | 20 => v = .pointer (some ⟨b, o + k * 3 + 1, none⟩)
          | 21 => v = .int .i64 e.1.2
          | 22 => v = .bool false
          | 23 => v = .bool false
          | 24 => v = .bool false
          | 25 => v = .int .i64 e.2
          | 26 => v = .slice (some ⟨b, o, none⟩) MA.length c5
          | 27 => v = .int .i64 (k : Int)
          | 28 => v = .pointer (some ⟨b, o + k * 3, none⟩)
          | 29 => v = .pointer (some ⟨b, o + k * 3 + 2, none⟩)
          | 30 => v = .int .i64 e.2
          | 31 => v = .bool false
          | _ => True) (.inr ⟨_, rfl⟩) (by kernel_rfl) (by kernel_rfl) (by kernel_rfl) (by kernel_rfl) (by kernel_rfl) (by kernel_rfl) (by decide) ?htlr1 ?hfrr1 (Only.refl _ _) (fun _ _ _ h k => h.trans k (fun _ hx => .inl hx)) ?stabr1 ?stepsr1 ?doner1
        case htlr1 => simp only [List.drop_succ_cons, List.drop_zero]; rfl
        case hfrr1 => intro vals; simp only [putAll, dstAt, Act.put, List.getElem?_toArray, List.getElem?_cons_zero, List.getElem?_cons_succ, Option.bind_some, List.setIfInBounds_toArray, List.set_cons_zero, List.set_cons_succ]; rfl
        case stabr1 =>
          intro i v wa wb h
          try dsimp only
          split <;> first | exact id
        case stepsr1 =>
          refine ⟨?_, ?_, ?_, ?_, ?_, ?_, ?_, ?_, ?_, ?_, ?_, ?_, ?_, ?_, ?_, ?_, ?_, ?_, ?_, ?_, ?_, ?_, ?_, ?_, ?_, ?_, ?_, ?_, ?_, ?_, ?_, ?_, trivial⟩
          · intro vals wr hR hp K hK
            dsimp only at hK ⊢
            clear hp
            unfold RunsOp
            have tg := hR.blk (Blk.drew HNK.out) (by simp)
            obtain ⟨k0, kl⟩ := tg.facts1
            clear tg
            go_simp
            exact hK.out _ _ ⟨_, rfl, Only.refl _ _, rfl⟩
          · intro vals wr hR hp K hK
            dsimp only at hK ⊢
            clear hp
            unfold RunsOp
            have tg := hR.blk (Blk.drew HXK.out) (by simp)
            obtain ⟨k0, kl⟩ := tg.facts1
            clear tg
            go_simp
            exact hK.out _ _ ⟨_, rfl, Only.refl _ _, rfl⟩
          · intro vals wr hR hp K hK
            dsimp only at hK ⊢
            obtain ⟨p1, -⟩ := hp
            replace p1 := p1 rfl
            dsimp only at p1
            rw [p1] at hK ⊢
            clear p1
            unfold RunsOp
            go_simp
            exact hK.out _ _ ⟨_, rfl, Only.refl _ _, rfl⟩
          · intro vals wr hR hp K hK
            dsimp only at hK ⊢
            obtain ⟨p0, p2, -⟩ := hp
            replace p0 := p0 rfl
            replace p2 := p2 rfl
            dsimp only at p0 p2
            rw [p0, p2] at hK ⊢
            clear p0 p2
            unfold RunsOp
            have iz := HGE.out
            go_simp
            exact hK.out _ _ ⟨_, rfl, Only.refl _ _, rfl⟩
          · intro vals wr hR hp K hK
            dsimp only at hK ⊢
            obtain ⟨p3, -⟩ := hp
            replace p3 := p3 rfl
            dsimp only at p3
            rw [p3] at hK ⊢
            clear p3
            unfold RunsOp
            go_simp
            exact hK.out _ _ ⟨_, rfl, Only.refl _ _, rfl⟩
          · intro vals wr hR hp K hK
            dsimp only at hK ⊢
            obtain ⟨p4, -⟩ := hp
            replace p4 := p4 rfl
            dsimp only at p4
            rw [p4] at hK ⊢
            clear p4
            unfold RunsOp
            go_simp
            exact hK.out _ _ ⟨_, rfl, Only.refl _ _, rfl⟩
          · intro vals wr hR hp K hK
            dsimp only at hK ⊢
            obtain ⟨p5, p4, -⟩ := hp
            replace p5 := p5 rfl
            replace p4 := p4 rfl
            dsimp only at p5 p4
            rw [p5, p4] at hK ⊢
            clear p5 p4
            unfold RunsOp
            have tg := hR.blk (Blk.drew HPK.out) (by simp)
            obtain ⟨k0, k1, kl⟩ := tg.facts2
            clear tg
            go_simp
            exact hK.out _ _ ⟨_, rfl, Only.refl _ _, rfl⟩
          · intro vals wr hR hp K hK
            dsimp only at hK ⊢
            obtain ⟨p4, -⟩ := hp
            replace p4 := p4 rfl
            dsimp only at p4
            rw [p4] at hK ⊢
            clear p4
            unfold RunsOp
            have tg := hR.blk (Blk.drew HXK.out) (by simp)
            obtain ⟨k0, kl⟩ := tg.facts1
            clear tg
            go_simp
            exact hK.out _ _ ⟨_, rfl, Only.refl _ _, rfl⟩
          · intro vals wr hR hp K hK
            dsimp only at hK ⊢
            obtain ⟨p4, -⟩ := hp
            replace p4 := p4 rfl
            dsimp only at p4
            rw [p4] at hK ⊢
            clear p4
            unfold RunsOp
            have tg := hR.blk (Blk.drew HNK.out) (by simp)
            obtain ⟨k0, kl⟩ := tg.facts1
            clear tg
            go_simp
            exact hK.out _ _ ⟨_, rfl, Only.refl _ _, rfl⟩
          · intro vals wr hR hp K hK
            dsimp only at hK ⊢
            obtain ⟨p7, p8, p4, -⟩ := hp
            replace p7 := p7 rfl
            replace p8 := p8 rfl
            replace p4 := p4 rfl
            dsimp only at p7 p8 p4
            rw [p7, p8, p4] at hK ⊢
            clear p7 p8 p4
            unfold RunsOp
            have iz := HIZ.out
            go_simp
            exact hK.out _ _ ⟨_, rfl, Only.refl _ _, rfl⟩
          · intro vals wr hR hp K hK
            dsimp only at hK ⊢
            obtain ⟨p9, p4, -⟩ := hp
            replace p9 := p9 rfl
            replace p4 := p4 rfl
            dsimp only at p9 p4
            rw [p9, p4] at hK ⊢
            clear p9 p4
            unfold RunsOp
            go_simp
            exact hK.out _ _ ⟨_, rfl, Only.refl _ _, rfl⟩
          · intro vals wr hR hp K hK
            dsimp only at hK ⊢
            obtain ⟨p10, p4, -⟩ := hp
            replace p10 := p10 rfl
            replace p4 := p4 rfl
            dsimp only at p10 p4
            rw [p10, p4] at hK ⊢
            clear p10 p4
            unfold RunsOp
            have k0 := (hR.cell (p := ⟨b, o + k * 3, none⟩) HCL.out.1 (by simp)).trans HCL.out.2.1
            go_simp
            exact hK.out _ _ ⟨_, rfl, Only.refl _ _, rfl⟩
          · intro vals wr hR hp K hK
            dsimp only at hK ⊢
            obtain ⟨p6, p11, p4, -⟩ := hp
            replace p6 := p6 rfl
            replace p11 := p11 rfl
            replace p4 := p4 rfl
            dsimp only at p6 p11 p4
            rw [p6, p11, p4] at hK ⊢
            clear p6 p11 p4
            unfold RunsOp
            go_simp
            exact hK.out _ _ ⟨_, rfl, Only.refl _ _, rfl⟩
          · intro vals wr hR hp K hK
            dsimp only at hK ⊢
            obtain ⟨p4, p12, -⟩ := hp
            replace p4 := p4 rfl
            replace p12 := p12 rfl
            dsimp only at p4 p12
            rw [p4, p12] at hK ⊢
            clear p4 p12
            unfold RunsOp
            go_simp
            exact hK.out _ _ ⟨_, rfl, Only.refl _ _, rfl⟩
          · intro vals wr hR hp K hK
            dsimp only at hK ⊢
            obtain ⟨p13, -, -⟩ := hp
            replace p13 := p13 rfl
            dsimp only at p13
            rw [p13] at hK ⊢
            clear p13
            unfold RunsOp
            go_simp
            exact hK.out _ _ ⟨_, rfl, Only.refl _ _, rfl⟩
          · intro vals wr hR hp K hK
            dsimp only at hK ⊢
            obtain ⟨p14, -⟩ := hp
            replace p14 := p14 rfl
            dsimp only at p14
            rw [p14] at hK ⊢
            clear p14
            unfold RunsOp
            go_simp
            exact hK.out _ _ ⟨_, rfl, Only.refl _ _, rfl⟩
          · intro vals wr hR hp K hK
            dsimp only at hK ⊢
            obtain ⟨p15, p14, -⟩ := hp
            replace p15 := p15 rfl
            replace p14 := p14 rfl
            dsimp only at p15 p14
            rw [p15, p14] at hK ⊢
            clear p15 p14
            unfold RunsOp
            have tg := hR.blk (Blk.drew HPK.out) (by simp)
            obtain ⟨k0, k1, kl⟩ := tg.facts2
            clear tg
            go_simp
            exact hK.out _ _ ⟨_, rfl, Only.refl _ _, rfl⟩
          · intro vals wr hR hp K hK
            dsimp only at hK ⊢
            obtain ⟨p14, -⟩ := hp
            replace p14 := p14 rfl
            dsimp only at p14
            rw [p14] at hK ⊢
            clear p14
            unfold RunsOp
            have tg := hR.blk (Blk.drew HXK.out) (by simp)
            obtain ⟨k0, kl⟩ := tg.facts1
            clear tg
            go_simp
            exact hK.out _ _ ⟨_, rfl, Only.refl _ _, rfl⟩
          · intro vals wr hR hp K hK
            dsimp only at hK ⊢
            obtain ⟨p14, -⟩ := hp
            replace p14 := p14 rfl
            dsimp only at p14
            rw [p14] at hK ⊢
            clear p14
            unfold RunsOp
            have tg := hR.blk (Blk.drew HNK.out) (by simp)
            obtain ⟨k0, kl⟩ := tg.facts1
            clear tg
            go_simp
            exact hK.out _ _ ⟨_, rfl, Only.refl _ _, rfl⟩
          · intro vals wr hR hp K hK
            dsimp only at hK ⊢
            obtain ⟨p17, p18, p14, -⟩ := hp
            replace p17 := p17 rfl
            replace p18 := p18 rfl
            replace p14 := p14 rfl
            dsimp only at p17 p18 p14
            rw [p17, p18, p14] at hK ⊢
            clear p17 p18 p14
            unfold RunsOp
            have iz := HIZ.out
            go_simp
            exact hK.out _ _ ⟨_, rfl, Only.refl _ _, rfl⟩
          · intro vals wr hR hp K hK
            dsimp only at hK ⊢
            obtain ⟨p19, p14, -⟩ := hp
            replace p19 := p19 rfl
            replace p14 := p14 rfl
            dsimp only at p19 p14
            rw [p19, p14] at hK ⊢
            clear p19 p14
            unfold RunsOp
            go_simp
            exact hK.out _ _ ⟨_, rfl, Only.refl _ _, rfl⟩
          · intro vals wr hR hp K hK
            dsimp only at hK ⊢
            obtain ⟨p20, p14, -⟩ := hp
            replace p20 := p20 rfl
            replace p14 := p14 rfl
            dsimp only at p20 p14
            rw [p20, p14] at hK ⊢
            clear p20 p14
            unfold RunsOp
            have k0 := (hR.cell (p := ⟨b, o + k * 3 + 1, none⟩) HCL.out.1 (by simp)).trans HCL.out.2.2.1
            go_simp
            exact hK.out _ _ ⟨_, rfl, Only.refl _ _, rfl⟩
          · intro vals wr hR hp K hK
            dsimp only at hK ⊢
            obtain ⟨p16, p21, p14, -⟩ := hp
            replace p16 := p16 rfl
            replace p21 := p21 rfl
            replace p14 := p14 rfl
            dsimp only at p16 p21 p14
            rw [p16, p21, p14] at hK ⊢
            clear p16 p21 p14
            unfold RunsOp
            go_simp
            exact hK.out _ _ ⟨_, rfl, Only.refl _ _, rfl⟩
          · intro vals wr hR hp K hK
            dsimp only at hK ⊢
            obtain ⟨p14, p22, -⟩ := hp
            replace p14 := p14 rfl
            replace p22 := p22 rfl
            dsimp only at p14 p22
            rw [p14, p22] at hK ⊢
            clear p14 p22
            unfold RunsOp
            go_simp
            exact hK.out _ _ ⟨_, rfl, Only.refl _ _, rfl⟩
          · intro vals wr hR hp K hK
            dsimp only at hK ⊢
            obtain ⟨p23, -, -⟩ := hp
            replace p23 := p23 rfl
            dsimp only at p23
            rw [p23] at hK ⊢
            clear p23
            unfold RunsOp
            go_simp
            exact hK.out _ _ ⟨_, rfl, Only.refl _ _, rfl⟩
          · intro vals wr hR hp K hK
            dsimp only at hK ⊢
            obtain ⟨p24, -⟩ := hp
            replace p24 := p24 rfl
            dsimp only at p24
            rw [p24] at hK ⊢
            clear p24
            unfold RunsOp
            go_simp
            exact hK.out _ _ ⟨_, rfl, Only.refl _ _, rfl⟩
          · intro vals wr hR hp K hK
            dsimp only at hK ⊢
            obtain ⟨p24, -⟩ := hp
            replace p24 := p24 rfl
            dsimp only at p24
            rw [p24] at hK ⊢
            clear p24
            unfold RunsOp
            have tg := hR.blk (Blk.drew HXK.out) (by simp)
            obtain ⟨k0, kl⟩ := tg.facts1
            clear tg
            go_simp
            exact hK.out _ _ ⟨_, rfl, Only.refl _ _, rfl⟩
          · intro vals wr hR hp K hK
            dsimp only at hK ⊢
            obtain ⟨p24, -⟩ := hp
            replace p24 := p24 rfl
            dsimp only at p24
            rw [p24] at hK ⊢
            clear p24
            unfold RunsOp
            have tg := hR.blk (Blk.drew HNK.out) (by simp)
            obtain ⟨k0, kl⟩ := tg.facts1
            clear tg
            go_simp
            exact hK.out _ _ ⟨_, rfl, Only.refl _ _, rfl⟩
          · intro vals wr hR hp K hK
            dsimp only at hK ⊢
            obtain ⟨p26, p27, p24, -⟩ := hp
            replace p26 := p26 rfl
            replace p27 := p27 rfl
            replace p24 := p24 rfl
            dsimp only at p26 p27 p24
            rw [p26, p27, p24] at hK ⊢
            clear p26 p27 p24
            unfold RunsOp
            have iz := HIZ.out
            go_simp
            exact hK.out _ _ ⟨_, rfl, Only.refl _ _, rfl⟩
          · intro vals wr hR hp K hK
            dsimp only at hK ⊢
            obtain ⟨p28, p24, -⟩ := hp
            replace p28 := p28 rfl
            replace p24 := p24 rfl
            dsimp only at p28 p24
            rw [p28, p24] at hK ⊢
            clear p28 p24
            unfold RunsOp
            go_simp
            exact hK.out _ _ ⟨_, rfl, Only.refl _ _, rfl⟩
          · intro vals wr hR hp K hK
            dsimp only at hK ⊢
            obtain ⟨p29, p24, -⟩ := hp
            replace p29 := p29 rfl
            replace p24 := p24 rfl
            dsimp only at p29 p24
            rw [p29, p24] at hK ⊢
            clear p29 p24
            unfold RunsOp
            have k0 := (hR.cell (p := ⟨b, o + k * 3 + 2, none⟩) HCL.out.1 (by simp)).trans HCL.out.2.2.2
            go_simp
            exact hK.out _ _ ⟨_, rfl, Only.refl _ _, rfl⟩
          · intro vals wr hR hp K hK
            dsimp only at hK ⊢
            obtain ⟨p25, p30, p24, -⟩ := hp
            replace p25 := p25 rfl
            replace p30 := p30 rfl
            replace p24 := p24 rfl
            dsimp only at p25 p30 p24
            rw [p25, p30, p24] at hK ⊢
            clear p25 p30 p24
            unfold RunsOp
            go_simp
            exact hK.out _ _ ⟨_, rfl, Only.refl _ _, rfl⟩
        case doner1 =>
          intro vals wd hR hF
          have f0 : vals 0 = .int .i64 (k : Int) := hF 0 (by decide)
          have f1 : vals 1 = .slice (some ⟨b, o, none⟩) MA.length c5 := hF 1 (by decide)
          have f2 : vals 2 = .int .i64 (MA.length : Nat) := hF 2 (by decide)
          have f3 : vals 3 = .bool false := hF 3 (by decide)
          have f4 : vals 4 = .bool false := hF 4 (by decide)
          have f5 : vals 5 = .pointer (some ⟨pb, 0, none⟩) := hF 5 (by decide)
          have f6 : vals 6 = .int .i64 e.1.1 := hF 6 (by decide)
          have f7 : vals 7 = .slice (some ⟨b, o, none⟩) MA.length c5 := hF 7 (by decide)
          have f8 : vals 8 = .int .i64 (k : Int) := hF 8 (by decide)
          have f9 : vals 9 = .pointer (some ⟨b, o + k * 3, none⟩) := hF 9 (by decide)
          have f10 : vals 10 = .pointer (some ⟨b, o + k * 3, none⟩) := hF 10 (by decide)
          have f11 : vals 11 = .int .i64 e.1.1 := hF 11 (by decide)
          have f12 : vals 12 = .bool false := hF 12 (by decide)
          have f13 : vals 13 = .bool false := hF 13 (by decide)
          have f14 : vals 14 = .bool false := hF 14 (by decide)
          have f15 : vals 15 = .pointer (some ⟨pb, 1, none⟩) := hF 15 (by decide)
          have f16 : vals 16 = .int .i64 e.1.2 := hF 16 (by decide)
          have f17 : vals 17 = .slice (some ⟨b, o, none⟩) MA.length c5 := hF 17 (by decide)
          have f18 : vals 18 = .int .i64 (k : Int) := hF 18 (by decide)
          have f19 : vals 19 = .pointer (some ⟨b, o + k * 3, none⟩) := hF 19 (by decide)
          have f20 : vals 20 = .pointer (some ⟨b, o + k * 3 + 1, none⟩) := hF 20 (by decide)
          have f21 : vals 21 = .int .i64 e.1.2 := hF 21 (by decide)
          have f22 : vals 22 = .bool false := hF 22 (by decide)
          have f23 : vals 23 = .bool false := hF 23 (by decide)
          have f24 : vals 24 = .bool false := hF 24 (by decide)
          have f25 : vals 25 = .int .i64 e.2 := hF 25 (by decide)
          have f26 : vals 26 = .slice (some ⟨b, o, none⟩) MA.length c5 := hF 26 (by decide)
          have f27 : vals 27 = .int .i64 (k : Int) := hF 27 (by decide)
          have f28 : vals 28 = .pointer (some ⟨b, o + k * 3, none⟩) := hF 28 (by decide)
          have f29 : vals 29 = .pointer (some ⟨b, o + k * 3 + 2, none⟩) := hF 29 (by decide)
          have f30 : vals 30 = .int .i64 e.2 := hF 30 (by decide)
          have f31 : vals 31 = .bool false := hF 31 (by decide)
          rw [f0, f1, f2, f3, f4, f5, f6, f7, f8, f9, f10, f11, f12, f13, f14, f15, f16, f17, f18, f19, f20, f21, f22, f23, f24, f25, f26, f27, f28, f29, f30, f31]
          clear f0 f1 f2 f3 f4 f5 f6 f7 f8 f9 f10 f11 f12 f13 f14 f15 f16 f17 f18 f19 f20 f21 f22 f23 f24 f25 f26 f27 f28 f29 f30 f31
          have oXd : Only [] X wd := ((Only.refl [] X).drew).trans hR (by simp)
          have hNd := oXd.blk HNK.out (by simp)
          have hSd := oXd.blk HSK.out (by simp)
          obtain ⟨n0, nl⟩ := hNd.facts1
          have nf := hNd.frozen 0
          obtain ⟨s0, sl⟩ := hSd.facts1
          have hsi : ¬ ib = sb := by omega
          have hsi' : ¬ sb = ib := by omega
          have HND := Lib.hid hNd
          have HOD := Lib.hid (HOK.out.trans oXd (by simp))
          have HXD := Lib.hid oXd
          have hmx : (k : Int) < 72000000 := by have := HIZ.out; omega
          have hk0 : (0 : Int) ≤ (k : Int) := HIZ.out.1
          clear oXd hNd hSd hR hF
          have oS := only_setCell wd ⟨ib, 0, none⟩ (.int .i64 ((k : Int) + 1))
          have hN1 := HND.out.set_ 0 (.int .i64 ((k : Int) + 1))
          have HOS := Lib.hid oS
          have HN1 := Lib.hid hN1
          clear oS hN1
          by_cases hb1 : z ≤ (k : Int) + 1
          · have hd1 : decide (z ≤ (k : Int) + 1) = true := by simpa using hb1
            by_cases hb2 : 0 < z
            · have hd2 : decide (0 < z) = true := by simpa using hb2
              have HB2 := Lib.hid (And.intro hb1 hb2)
              clear hb1 hb2
              gi_wp2_with (fail)
              refine ⟨⟨[ib], ⟨rfl, rfl, HOD.out.trans HOS.out (fun _ h => .inl h), k + 1, by have := HN1.out; simpa using this, by have := HKZ.out; have := HB2.out; omega⟩, fun b hb => .inl hb⟩, (HXD.out.mono (fun _ h => by simp at h)).trans HOS.out (fun _ h => .inl h)⟩
            · have hd2 : decide (0 < z) = false := by simpa using hb2
              have HB2 := Lib.hid (And.intro hb1 hb2)
              clear hb1 hb2
              gi_wp2_with (fail)
              refine ⟨⟨[ib], ⟨rfl, HOD.out.trans HOS.out (fun _ h => .inl h), by have := HN1.out; simpa using this, .inr (.inl (by have := HB2.out; omega))⟩, fun b hb => .inl hb⟩, (HXD.out.mono (fun _ h => by simp at h)).trans HOS.out (fun _ h => .inl h)⟩
          · have hd1 : decide (z ≤ (k : Int) + 1) = false := by simpa using hb1
            have HB1 := Lib.hid hb1
            clear hb1
            gi_wp2_with (fail)
            refine ⟨⟨[ib], ⟨rfl, HOD.out.trans HOS.out (fun _ h => .inl h), by have := HN1.out; simpa using this, .inr (.inr (by have := HB1.out; omega))⟩, fun b hb => .inl hb⟩, (HXD.out.mono (fun _ h => by simp at h)).trans HOS.out (fun _ h => .inl h)⟩
      case done1 =>
        intro D1 S V hD hDS hI hKd
        obtain ⟨rfl, hO, hN, -⟩ := hI
        have e1 : (valsN MA).length = MA.length := by simp [valsN]
        rw [e1] at hN
        obtain ⟨iv, hv⟩ : ∃ iv : Nat, iv = MA.length := ⟨_, rfl⟩
        rw [← hv] at hN
        have Hiv := Lib.hid (show iv = MA.length ∨ (iv : Int) = z from .inl hv)
        clear hv e1
        have hDV : D1 < V.heap.size := (Array.getElem?_eq_some_iff.1 hKd).1
        have hwV := hO.size
        have HTV := Lib.hid (HNB1.out.only hO (fun x hx hm => by have := HLOW.out x hx; simp at hm; omega) (fun x hx => by simp at hx; omega))
        have HOV := Lib.hid (HOO1.out.trans hO (fun x hx => by simp at hx; have := HO1.out.size; exact .inr (by omega)))
        have HR1V := Lib.hid (HR11.out.besides hO (fun p hp => by have := HFA.out p hp; simp; omega))
        have HR2V := Lib.hid (HR21.out.besides hO (fun p hp => by have := HFH.out p hp; simp; omega))
        have HXAV := Lib.hid (hO.blk HXA1.out (by simp; omega))
        have HXHV := Lib.hid (hO.blk HXH1.out (by simp; omega))
        have HSBV := Lib.hid (hO.blk HSB1.out (by simp; omega))
        have HRBV := Lib.hid (hO.blk HRB1.out (by simp; omega))
        have HIBV := Lib.hid hN
        have HDV := Lib.hid hKd
        clear hO hN hKd hsq1 HNB1 HOO1 HR11 HR21 HXA1 HXH1 HSB1 HRB1 HIB1 HT7 HO7 HR1' HR2' HXA HXH HIB HSB HRB
        have hb19 : D1 ≠ rb := by have := HRBV.out.lt; omega
        go_wp2_with (fail)
        have o9 : Only [] V (V.alloc (.cells #[.int .i64 0] 3)) := (Only.refl _ _).alloc _
        have HJB := Lib.hid (Blk.new V 3 #[.int .i64 0])
        have HT9 := Lib.hid (HTV.out.keep o9)
        have HO9 := Lib.hid (HOV.out.trans o9 (by simp))
        have HR19 := Lib.hid (HR1V.out.only o9)
        have HR29 := Lib.hid (HR2V.out.only o9)
        have HXA9 := Lib.hid (o9.blk HXAV.out (by simp))
        have HXH9 := Lib.hid (o9.blk HXHV.out (by simp))
        have HSB9 := Lib.hid (o9.blk HSBV.out (by simp))
        have HRB9 := Lib.hid (o9.blk HRBV.out (by simp))
        have HIB9 := Lib.hid (o9.blk HIBV.out (by simp))
        have HD9 := Lib.hid ((o9.block D1 hDV (by simp)).trans HDV.out)
        have hibV : ib < V.heap.size := HIBV.out.lt
        obtain ⟨jb, hjb⟩ : ∃ jb, V.heap.size = jb := ⟨_, rfl⟩
        have hij : ib < jb ∧ D1 < jb := by omega
        rw [hjb] at HJB ⊢
        clear o9 HTV HOV HR1V HR2V HXAV HXHV HSBV HRBV HIBV HDV hjb hibV hwV hDV
        generalize V.alloc (.cells #[.int .i64 0] 3) = w9 at *
        refine (nheads_any _ _ rfl w9).mono ?_
        rintro e w10 ⟨rfl, rfl⟩
        go_wp2_with (fail)
        have ox2 : Only [] w9 (w9.alloc (.cells #[.pointer (some ⟨g, 0, none⟩)] 24)) := (Only.refl _ _).alloc _
        have hbx2 := Blk.new w9 24 #[.pointer (some ⟨g, 0, none⟩)]
        have hsq2 := nheads_seqs (HT9.out.nb.keep ox2) hbx2
        have HNB2 := Lib.hid (HT9.out.keep ox2)
        have HOO2 := Lib.hid (HO9.out.trans ox2 (by simp))
        have HR12 := Lib.hid (HR19.out.only ox2)
        have HR22 := Lib.hid (HR29.out.only ox2)
        have HXA2 := Lib.hid (ox2.blk HXA9.out (by simp))
        have HXH2 := Lib.hid (ox2.blk HXH9.out (by simp))
        have HIB2 := Lib.hid (ox2.blk HJB.out (by simp))
        have HIO2 := Lib.hid (ox2.blk HIB9.out (by simp))
        have HSB2 := Lib.hid (ox2.blk HSB9.out (by simp))
        have HRB2 := Lib.hid (ox2.blk HRB9.out (by simp))
        have HDD2 := Lib.hid ((ox2.block D1 (Array.getElem?_eq_some_iff.1 HD9.out).1 (by simp)).trans HD9.out)
        have hmw2 : w1.heap.size ≤ (w9.alloc (.cells #[.pointer (some ⟨g, 0, none⟩)] 24)).heap.size := HNB2.out.o.size
        have hib2 : jb < (w9.alloc (.cells #[.pointer (some ⟨g, 0, none⟩)] 24)).heap.size := HIB2.out.lt
        clear hbx2 ox2
        obtain ⟨cb2, hcb2⟩ : ∃ cb, w9.heap.size = cb := ⟨_, rfl⟩
        rw [hcb2] at hsq2 ⊢
        clear hcb2
        generalize w9.alloc (.cells #[.pointer (some ⟨g, 0, none⟩)] 24) = w10 at *
        rw [HMH.out] at hsq2
        refine' wp_rangeFunc_seqsT (gf := 27) (lb := #[.pointer (some ⟨cb2, 0, none⟩)]) (vs := valsN MH) (prot := []) rfl (enters Try.func27 (by kernel_rfl) rfl)
          hsq2 (by intro v hv; simp only [valsN, List.mem_map] at hv; obtain ⟨_, _, rfl⟩ := hv; rfl) [jb] (by simp; omega) (by simp)
          (fun k S V => S = [jb] ∧ Only [jb] w10 V ∧ Blk V jb 3 #[.int .i64 (k : Int)] ∧ (k = 0 ∨ z = 0 ∨ (k : Int) < z))
          (fun c S V => c = .exit 4 ∧ S = [jb] ∧ Only [jb] w10 V ∧ ∃ j : Nat, Blk V jb 3 #[.int .i64 (j : Int)] ∧ (j : Int) = z) ?hI2 ?hIx2 ?h02
          _ (fun k V => V.alloc (.cells #[.int .i64 (gI MH k).1.1, .int .i64 (gI MH k).1.2] 50)) (fun k V => (Only.refl [] V).alloc _) ?assign2 ?body2 ?done2 ?stop2
        case assign2 =>
          intro l0 k v X K hv hKK
          obtain rfl : #[.agg #[.int .i64 (gI MH k).1.1, .int .i64 (gI MH k).1.2], .int .i64 (gI MH k).2] = v := by
            obtain ⟨e, he, rfl⟩ := valsN_of hv
            have e2 : gI MH k = e := by unfold gI; rw [he]; rfl
            rw [e2]
          clear hv
          gi_wp2
          exact hKK
        case hI2 =>
          rintro k S V1 V2 ⟨rfl, h1, h2, h3⟩ hk
          exact ⟨rfl, h1.keepT hk (Nat.le_refl _), hk.blk h2 (.inr (by simp)), h3⟩
        case hIx2 =>
          rintro c S V1 V2 ⟨h1, rfl, h2, j, h3, h4⟩ hk
          exact ⟨h1, rfl, h2.keepT hk (Nat.le_refl _), j, hk.blk h3 (.inr (by simp)), h4⟩
        case h02 => exact ⟨rfl, Only.refl _ _, HIB2.out, .inl rfl⟩
        case body2 =>
          intro l0 k vv S V X hv hI hk
          obtain ⟨rfl, hO, hN, hkz⟩ := hI
          obtain ⟨e, he, rfl⟩ := valsN_of hv
          have e2 : gI MH k = e := by unfold gI; rw [he]; rfl
          have hkM : k < MH.length := (List.getElem?_eq_some_iff.1 he).1
          have hXK := hO.blk HXH2.out (by simp; omega)
          have hSK := hO.blk HSB2.out (by simp; omega)
          have hRow := (HR22.out).besides hO (fun p hp => by have := HFH.out p hp; simp; omega)
          obtain ⟨b, o, hA, hbl, d0, d1, d2⟩ := row3_at hRow he
          subst hA
          have hPK := hk.blk (Blk.new V 50 #[.int .i64 (gI MH k).1.1, .int .i64 (gI MH k).1.2])
          obtain ⟨pb, hpb⟩ : ∃ pb, V.heap.size = pb := ⟨_, rfl⟩
          rw [e2] at hPK ⊢
          rw [hpb] at hPK ⊢
          have HNK := Lib.hid hN
          have HXK := Lib.hid hXK
          have HSK := Lib.hid hSK
          have HPK := Lib.hid hPK
          have HOK := Lib.hid hO
          have HKZ := Lib.hid hkz
          have HIZ := Lib.hid (show (0 : Int) ≤ (k : Int) ∧ (k : Int) < (MH.length : Int) from by omega)
          have HGE := Lib.hid (show decide (MH.length ≤ k) = false from by simp; omega)
          have HCL := Lib.hid (show b < X.drew.heap.size ∧ X.drew.cell? ⟨b, o + k * 3, none⟩ = some (.int .i64 e.1.1) ∧ X.drew.cell? ⟨b, o + k * 3 + 1, none⟩ = some (.int .i64 e.1.2) ∧ X.drew.cell? ⟨b, o + k * 3 + 2, none⟩ = some (.int .i64 e.2) from ⟨hbl, d0, d1, d2⟩)
          clear hN hXK hSK hPK hO hkz hRow hbl d0 d1 d2 hv hk he e2 hkM hpb
          gi_wp2_with (fail)
          refine wpIn_region_relR 32 (Only []) (fr := ?frr2) (tl := ?tlr2) (fun iq v wv => match iq with
            | 0 => v = .int .i64 (k : Int)
            | 1 => v = .slice (some ⟨b, o, none⟩) MH.length c6
            | 2 => v = .int .i64 (MH.length : Nat)
            | 3 => v = .bool false
            | 4 => v = .bool false
            | 5 => v = .pointer (some ⟨pb, 0, none⟩)
            | 6 => v = .int .i64 e.1.1
            | 7 => v = .slice (some ⟨b, o, none⟩) MH.length c6
            | 8 => v = .int .i64 (k : Int)
            | 9 => v = .pointer (some ⟨b, o + k * 3, none⟩)
            | 10 => v = .pointer (some ⟨b, o + k * 3, none⟩)
            | 11 => v = .int .i64 e.1.1
            | 12 => v = .bool false
            | 13 => v = .bool false
            | 14 => v = .bool false
            | 15 => v = .pointer (some ⟨pb, 1, none⟩)
            | 16 => v = .int .i64 e.1.2
            | 17 => v = .slice (some ⟨b, o, none⟩) MH.length c6
            | 18 => v = .int .i64 (k : Int)
            | 19 => v = .pointer (some ⟨b, o + k * 3, none⟩)
            | 20 => v = .pointer (some ⟨b, o + k * 3 + 1, none⟩)
            | 21 => v = .int .i64 e.1.2
            | 22 => v = .bool false
            | 23 => v = .bool false
            | 24 => v = .bool false
            | 25 => v = .int .i64 e.2
            | 26 => v = .slice (some ⟨b, o, none⟩) MH.length c6
            | 27 => v = .int .i64 (k : Int)
            | 28 => v = .pointer (some ⟨b, o + k * 3, none⟩)
            | 29 => v = .pointer (some ⟨b, o + k * 3 + 2, none⟩)
            | 30 => v = .int .i64 e.2
            | 31 => v = .bool false
            | _ => True) (.inr ⟨_, rfl⟩) (by kernel_rfl) (by kernel_rfl) (by kernel_rfl) (by kernel_rfl) (by kernel_rfl) (by kernel_rfl) (by decide) ?htlr2 ?hfrr2 (Only.refl _ _) (fun _ _ _ h k => h.trans k (fun _ hx => .inl hx)) ?stabr2 ?stepsr2 ?doner2
          case htlr2 => simp only [List.drop_succ_cons, List.drop_zero]; rfl
          case hfrr2 => intro vals; simp only [putAll, dstAt, Act.put, List.getElem?_toArray, List.getElem?_cons_zero, List.getElem?_cons_succ, Option.bind_some, List.setIfInBounds_toArray, List.set_cons_zero, List.set_cons_succ]; rfl
          case stabr2 =>
            intro i v wa wb h
            try dsimp only
            split <;> first | exact id
          case stepsr2 =>
            refine ⟨?_, ?_, ?_, ?_, ?_, ?_, ?_, ?_, ?_, ?_, ?_, ?_, ?_, ?_, ?_, ?_, ?_, ?_, ?_, ?_, ?_, ?_, ?_, ?_, ?_, ?_, ?_, ?_, ?_, ?_, ?_, ?_, trivial⟩
            · intro vals wr hR hp K hK
              dsimp only at hK ⊢
              clear hp
              unfold RunsOp
              have tg := hR.blk (Blk.drew HNK.out) (by simp)
              obtain ⟨k0, kl⟩ := tg.facts1
              clear tg
              go_simp
              exact hK.out _ _ ⟨_, rfl, Only.refl _ _, rfl⟩
            · intro vals wr hR hp K hK
              dsimp only at hK ⊢
              clear hp
              unfold RunsOp
              have tg := hR.blk (Blk.drew HXK.out) (by simp)
              obtain ⟨k0, kl⟩ := tg.facts1
              clear tg
              go_simp
              exact hK.out _ _ ⟨_, rfl, Only.refl _ _, rfl⟩
            · intro vals wr hR hp K hK
              dsimp only at hK ⊢
              obtain ⟨p1, -⟩ := hp
              replace p1 := p1 rfl
              dsimp only at p1
              rw [p1] at hK ⊢
              clear p1
              unfold RunsOp
              go_simp
              exact hK.out _ _ ⟨_, rfl, Only.refl _ _, rfl⟩
            · intro vals wr hR hp K hK
              dsimp only at hK ⊢
              obtain ⟨p0, p2, -⟩ := hp
              replace p0 := p0 rfl
              replace p2 := p2 rfl
              dsimp only at p0 p2
              rw [p0, p2] at hK ⊢
              clear p0 p2
              unfold RunsOp
              have iz := HGE.out
              go_simp
              exact hK.out _ _ ⟨_, rfl, Only.refl _ _, rfl⟩
            · intro vals wr hR hp K hK
              dsimp only at hK ⊢
              obtain ⟨p3, -⟩ := hp
              replace p3 := p3 rfl
              dsimp only at p3
              rw [p3] at hK ⊢
              clear p3
              unfold RunsOp
              go_simp
              exact hK.out _ _ ⟨_, rfl, Only.refl _ _, rfl⟩
            · intro vals wr hR hp K hK
              dsimp only at hK ⊢
              obtain ⟨p4, -⟩ := hp
              replace p4 := p4 rfl
              dsimp only at p4
              rw [p4] at hK ⊢
              clear p4
              unfold RunsOp
              go_simp
              exact hK.out _ _ ⟨_, rfl, Only.refl _ _, rfl⟩
            · intro vals wr hR hp K hK
              dsimp only at hK ⊢
              obtain ⟨p5, p4, -⟩ := hp
              replace p5 := p5 rfl
              replace p4 := p4 rfl
              dsimp only at p5 p4
              rw [p5, p4] at hK ⊢
              clear p5 p4
              unfold RunsOp
              have tg := hR.blk (Blk.drew HPK.out) (by simp)
              obtain ⟨k0, k1, kl⟩ := tg.facts2
              clear tg
              go_simp
              exact hK.out _ _ ⟨_, rfl, Only.refl _ _, rfl⟩
            · intro vals wr hR hp K hK
              dsimp only at hK ⊢
              obtain ⟨p4, -⟩ := hp
              replace p4 := p4 rfl
              dsimp only at p4
              rw [p4] at hK ⊢
              clear p4
              unfold RunsOp
              have tg := hR.blk (Blk.drew HXK.out) (by simp)
              obtain ⟨k0, kl⟩ := tg.facts1
              clear tg
              go_simp
              exact hK.out _ _ ⟨_, rfl, Only.refl _ _, rfl⟩
            · intro vals wr hR hp K hK
              dsimp only at hK ⊢
              obtain ⟨p4, -⟩ := hp
              replace p4 := p4 rfl
              dsimp only at p4
              rw [p4] at hK ⊢
              clear p4
              unfold RunsOp
              have tg := hR.blk (Blk.drew HNK.out) (by simp)
              obtain ⟨k0, kl⟩ := tg.facts1
              clear tg
              go_simp
              exact hK.out _ _ ⟨_, rfl, Only.refl _ _, rfl⟩
            · intro vals wr hR hp K hK
              dsimp only at hK ⊢
              obtain ⟨p7, p8, p4, -⟩ := hp
              replace p7 := p7 rfl
              replace p8 := p8 rfl
              replace p4 := p4 rfl
              dsimp only at p7 p8 p4
              rw [p7, p8, p4] at hK ⊢
              clear p7 p8 p4
              unfold RunsOp
              have iz := HIZ.out
              go_simp
              exact hK.out _ _ ⟨_, rfl, Only.refl _ _, rfl⟩
            · intro vals wr hR hp K hK
              dsimp only at hK ⊢
              obtain ⟨p9, p4, -⟩ := hp
              replace p9 := p9 rfl
              replace p4 := p4 rfl
              dsimp only at p9 p4
              rw [p9, p4] at hK ⊢
              clear p9 p4
              unfold RunsOp
              go_simp
              exact hK.out _ _ ⟨_, rfl, Only.refl _ _, rfl⟩
            · intro vals wr hR hp K hK
              dsimp only at hK ⊢
              obtain ⟨p10, p4, -⟩ := hp
              replace p10 := p10 rfl
              replace p4 := p4 rfl
              dsimp only at p10 p4
              rw [p10, p4] at hK ⊢
              clear p10 p4
              unfold RunsOp
              have k0 := (hR.cell (p := ⟨b, o + k * 3, none⟩) HCL.out.1 (by simp)).trans HCL.out.2.1
              go_simp
              exact hK.out _ _ ⟨_, rfl, Only.refl _ _, rfl⟩
            · intro vals wr hR hp K hK
              dsimp only at hK ⊢
              obtain ⟨p6, p11, p4, -⟩ := hp
              replace p6 := p6 rfl
              replace p11 := p11 rfl
              replace p4 := p4 rfl
              dsimp only at p6 p11 p4
              rw [p6, p11, p4] at hK ⊢
              clear p6 p11 p4
              unfold RunsOp
              go_simp
              exact hK.out _ _ ⟨_, rfl, Only.refl _ _, rfl⟩
            · intro vals wr hR hp K hK
              dsimp only at hK ⊢
              obtain ⟨p4, p12, -⟩ := hp
              replace p4 := p4 rfl
              replace p12 := p12 rfl
              dsimp only at p4 p12
              rw [p4, p12] at hK ⊢
              clear p4 p12
              unfold RunsOp
              go_simp
              exact hK.out _ _ ⟨_, rfl, Only.refl _ _, rfl⟩
            · intro vals wr hR hp K hK
              dsimp only at hK ⊢
              obtain ⟨p13, -, -⟩ := hp
              replace p13 := p13 rfl
              dsimp only at p13
              rw [p13] at hK ⊢
              clear p13
              unfold RunsOp
              go_simp
              exact hK.out _ _ ⟨_, rfl, Only.refl _ _, rfl⟩
            · intro vals wr hR hp K hK
              dsimp only at hK ⊢
              obtain ⟨p14, -⟩ := hp
              replace p14 := p14 rfl
              dsimp only at p14
              rw [p14] at hK ⊢
              clear p14
              unfold RunsOp
              go_simp
              exact hK.out _ _ ⟨_, rfl, Only.refl _ _, rfl⟩
            · intro vals wr hR hp K hK
              dsimp only at hK ⊢
              obtain ⟨p15, p14, -⟩ := hp
              replace p15 := p15 rfl
              replace p14 := p14 rfl
              dsimp only at p15 p14
              rw [p15, p14] at hK ⊢
              clear p15 p14
              unfold RunsOp
              have tg := hR.blk (Blk.drew HPK.out) (by simp)
              obtain ⟨k0, k1, kl⟩ := tg.facts2
              clear tg
              go_simp
              exact hK.out _ _ ⟨_, rfl, Only.refl _ _, rfl⟩
            · intro vals wr hR hp K hK
              dsimp only at hK ⊢
              obtain ⟨p14, -⟩ := hp
              replace p14 := p14 rfl
              dsimp only at p14
              rw [p14] at hK ⊢
              clear p14
              unfold RunsOp
              have tg := hR.blk (Blk.drew HXK.out) (by simp)
              obtain ⟨k0, kl⟩ := tg.facts1
              clear tg
              go_simp
              exact hK.out _ _ ⟨_, rfl, Only.refl _ _, rfl⟩
            · intro vals wr hR hp K hK
              dsimp only at hK ⊢
              obtain ⟨p14, -⟩ := hp
              replace p14 := p14 rfl
              dsimp only at p14
              rw [p14] at hK ⊢
              clear p14
              unfold RunsOp
              have tg := hR.blk (Blk.drew HNK.out) (by simp)
              obtain ⟨k0, kl⟩ := tg.facts1
              clear tg
              go_simp
              exact hK.out _ _ ⟨_, rfl, Only.refl _ _, rfl⟩
            · intro vals wr hR hp K hK
              dsimp only at hK ⊢
              obtain ⟨p17, p18, p14, -⟩ := hp
              replace p17 := p17 rfl
              replace p18 := p18 rfl
              replace p14 := p14 rfl
              dsimp only at p17 p18 p14
              rw [p17, p18, p14] at hK ⊢
              clear p17 p18 p14
              unfold RunsOp
              have iz := HIZ.out
              go_simp
              exact hK.out _ _ ⟨_, rfl, Only.refl _ _, rfl⟩
            · intro vals wr hR hp K hK
              dsimp only at hK ⊢
              obtain ⟨p19, p14, -⟩ := hp
              replace p19 := p19 rfl
              replace p14 := p14 rfl
              dsimp only at p19 p14
              rw [p19, p14] at hK ⊢
              clear p19 p14
              unfold RunsOp
              go_simp
              exact hK.out _ _ ⟨_, rfl, Only.refl _ _, rfl⟩
            · intro vals wr hR hp K hK
              dsimp only at hK ⊢
              obtain ⟨p20, p14, -⟩ := hp
              replace p20 := p20 rfl
              replace p14 := p14 rfl
              dsimp only at p20 p14
              rw [p20, p14] at hK ⊢
              clear p20 p14
              unfold RunsOp
              have k0 := (hR.cell (p := ⟨b, o + k * 3 + 1, none⟩) HCL.out.1 (by simp)).trans HCL.out.2.2.1
              go_simp
              exact hK.out _ _ ⟨_, rfl, Only.refl _ _, rfl⟩
            · intro vals wr hR hp K hK
              dsimp only at hK ⊢
              obtain ⟨p16, p21, p14, -⟩ := hp
              replace p16 := p16 rfl
              replace p21 := p21 rfl
              replace p14 := p14 rfl
              dsimp only at p16 p21 p14
              rw [p16, p21, p14] at hK ⊢
              clear p16 p21 p14
              unfold RunsOp
              go_simp
              exact hK.out _ _ ⟨_, rfl, Only.refl _ _, rfl⟩
            · intro vals wr hR hp K hK
              dsimp only at hK ⊢
              obtain ⟨p14, p22, -⟩ := hp
              replace p14 := p14 rfl
              replace p22 := p22 rfl
              dsimp only at p14 p22
              rw [p14, p22] at hK ⊢
              clear p14 p22
              unfold RunsOp
              go_simp
              exact hK.out _ _ ⟨_, rfl, Only.refl _ _, rfl⟩
            · intro vals wr hR hp K hK
              dsimp only at hK ⊢
              obtain ⟨p23, -, -⟩ := hp
              replace p23 := p23 rfl
              dsimp only at p23
              rw [p23] at hK ⊢
              clear p23
              unfold RunsOp
              go_simp
              exact hK.out _ _ ⟨_, rfl, Only.refl _ _, rfl⟩
            · intro vals wr hR hp K hK
              dsimp only at hK ⊢
              obtain ⟨p24, -⟩ := hp
              replace p24 := p24 rfl
              dsimp only at p24
              rw [p24] at hK ⊢
              clear p24
              unfold RunsOp
              go_simp
              exact hK.out _ _ ⟨_, rfl, Only.refl _ _, rfl⟩
            · intro vals wr hR hp K hK
              dsimp only at hK ⊢
              obtain ⟨p24, -⟩ := hp
              replace p24 := p24 rfl
              dsimp only at p24
              rw [p24] at hK ⊢
              clear p24
              unfold RunsOp
              have tg := hR.blk (Blk.drew HXK.out) (by simp)
              obtain ⟨k0, kl⟩ := tg.facts1
              clear tg
              go_simp
              exact hK.out _ _ ⟨_, rfl, Only.refl _ _, rfl⟩
            · intro vals wr hR hp K hK
              dsimp only at hK ⊢
              obtain ⟨p24, -⟩ := hp
              replace p24 := p24 rfl
              dsimp only at p24
              rw [p24] at hK ⊢
              clear p24
              unfold RunsOp
              have tg := hR.blk (Blk.drew HNK.out) (by simp)
              obtain ⟨k0, kl⟩ := tg.facts1
              clear tg
              go_simp
              exact hK.out _ _ ⟨_, rfl, Only.refl _ _, rfl⟩
            · intro vals wr hR hp K hK
              dsimp only at hK ⊢
              obtain ⟨p26, p27, p24, -⟩ := hp
              replace p26 := p26 rfl
              replace p27 := p27 rfl
              replace p24 := p24 rfl
              dsimp only at p26 p27 p24
              rw [p26, p27, p24] at hK ⊢
              clear p26 p27 p24
              unfold RunsOp
              have iz := HIZ.out
              go_simp
              exact hK.out _ _ ⟨_, rfl, Only.refl _ _, rfl⟩
            · intro vals wr hR hp K hK
              dsimp only at hK ⊢
              obtain ⟨p28, p24, -⟩ := hp
              replace p28 := p28 rfl
              replace p24 := p24 rfl
              dsimp only at p28 p24
              rw [p28, p24] at hK ⊢
              clear p28 p24
              unfold RunsOp
              go_simp
              exact hK.out _ _ ⟨_, rfl, Only.refl _ _, rfl⟩
            · intro vals wr hR hp K hK
              dsimp only at hK ⊢
              obtain ⟨p29, p24, -⟩ := hp
              replace p29 := p29 rfl
              replace p24 := p24 rfl
              dsimp only at p29 p24
              rw [p29, p24] at hK ⊢
              clear p29 p24
              unfold RunsOp
              have k0 := (hR.cell (p := ⟨b, o + k * 3 + 2, none⟩) HCL.out.1 (by simp)).trans HCL.out.2.2.2
              go_simp
              exact hK.out _ _ ⟨_, rfl, Only.refl _ _, rfl⟩
            · intro vals wr hR hp K hK
              dsimp only at hK ⊢
              obtain ⟨p25, p30, p24, -⟩ := hp
              replace p25 := p25 rfl
              replace p30 := p30 rfl
              replace p24 := p24 rfl
              dsimp only at p25 p30 p24
              rw [p25, p30, p24] at hK ⊢
              clear p25 p30 p24
              unfold RunsOp
              go_simp
              exact hK.out _ _ ⟨_, rfl, Only.refl _ _, rfl⟩
          case doner2 =>
            intro vals wd hR hF
            have f0 : vals 0 = .int .i64 (k : Int) := hF 0 (by decide)
            have f1 : vals 1 = .slice (some ⟨b, o, none⟩) MH.length c6 := hF 1 (by decide)
            have f2 : vals 2 = .int .i64 (MH.length : Nat) := hF 2 (by decide)
            have f3 : vals 3 = .bool false := hF 3 (by decide)
            have f4 : vals 4 = .bool false := hF 4 (by decide)
            have f5 : vals 5 = .pointer (some ⟨pb, 0, none⟩) := hF 5 (by decide)
            have f6 : vals 6 = .int .i64 e.1.1 := hF 6 (by decide)
            have f7 : vals 7 = .slice (some ⟨b, o, none⟩) MH.length c6 := hF 7 (by decide)
            have f8 : vals 8 = .int .i64 (k : Int) := hF 8 (by decide)
            have f9 : vals 9 = .pointer (some ⟨b, o + k * 3, none⟩) := hF 9 (by decide)
            have f10 : vals 10 = .pointer (some ⟨b, o + k * 3, none⟩) := hF 10 (by decide)
            have f11 : vals 11 = .int .i64 e.1.1 := hF 11 (by decide)
            have f12 : vals 12 = .bool false := hF 12 (by decide)
            have f13 : vals 13 = .bool false := hF 13 (by decide)
            have f14 : vals 14 = .bool false := hF 14 (by decide)
            have f15 : vals 15 = .pointer (some ⟨pb, 1, none⟩) := hF 15 (by decide)
            have f16 : vals 16 = .int .i64 e.1.2 := hF 16 (by decide)
            have f17 : vals 17 = .slice (some ⟨b, o, none⟩) MH.length c6 := hF 17 (by decide)
            have f18 : vals 18 = .int .i64 (k : Int) := hF 18 (by decide)
            have f19 : vals 19 = .pointer (some ⟨b, o + k * 3, none⟩) := hF 19 (by decide)
            have f20 : vals 20 = .pointer (some ⟨b, o + k * 3 + 1, none⟩) := hF 20 (by decide)
            have f21 : vals 21 = .int .i64 e.1.2 := hF 21 (by decide)
            have f22 : vals 22 = .bool false := hF 22 (by decide)
            have f23 : vals 23 = .bool false := hF 23 (by decide)
            have f24 : vals 24 = .bool false := hF 24 (by decide)
            have f25 : vals 25 = .int .i64 e.2 := hF 25 (by decide)
            have f26 : vals 26 = .slice (some ⟨b, o, none⟩) MH.length c6 := hF 26 (by decide)
            have f27 : vals 27 = .int .i64 (k : Int) := hF 27 (by decide)
            have f28 : vals 28 = .pointer (some ⟨b, o + k * 3, none⟩) := hF 28 (by decide)
            have f29 : vals 29 = .pointer (some ⟨b, o + k * 3 + 2, none⟩) := hF 29 (by decide)
            have f30 : vals 30 = .int .i64 e.2 := hF 30 (by decide)
            have f31 : vals 31 = .bool false := hF 31 (by decide)
            rw [f0, f1, f2, f3, f4, f5, f6, f7, f8, f9, f10, f11, f12, f13, f14, f15, f16, f17, f18, f19, f20, f21, f22, f23, f24, f25, f26, f27, f28, f29, f30, f31]
            clear f0 f1 f2 f3 f4 f5 f6 f7 f8 f9 f10 f11 f12 f13 f14 f15 f16 f17 f18 f19 f20 f21 f22 f23 f24 f25 f26 f27 f28 f29 f30 f31
            have oXd : Only [] X wd := ((Only.refl [] X).drew).trans hR (by simp)
            have hNd := oXd.blk HNK.out (by simp)
            have hSd := oXd.blk HSK.out (by simp)
            obtain ⟨n0, nl⟩ := hNd.facts1
            have nf := hNd.frozen 0
            obtain ⟨s0, sl⟩ := hSd.facts1
            have hsi : ¬ jb = sb := by omega
            have hsi' : ¬ sb = jb := by omega
            have HND := Lib.hid hNd
            have HOD := Lib.hid (HOK.out.trans oXd (by simp))
            have HXD := Lib.hid oXd
            have hmx : (k : Int) < 72000000 := by have := HIZ.out; omega
            have hk0 : (0 : Int) ≤ (k : Int) := HIZ.out.1
            clear oXd hNd hSd hR hF
            have oS := only_setCell wd ⟨jb, 0, none⟩ (.int .i64 ((k : Int) + 1))
            have hN1 := HND.out.set_ 0 (.int .i64 ((k : Int) + 1))
            have HOS := Lib.hid oS
            have HN1 := Lib.hid hN1
            clear oS hN1
            by_cases hb1 : z ≤ (k : Int) + 1
            · have hd1 : decide (z ≤ (k : Int) + 1) = true := by simpa using hb1
              by_cases hb2 : 0 < z
              · have hd2 : decide (0 < z) = true := by simpa using hb2
                have HB2 := Lib.hid (And.intro hb1 hb2)
                clear hb1 hb2
                gi_wp2_with (fail)
                refine ⟨⟨[jb], ⟨rfl, rfl, HOD.out.trans HOS.out (fun _ h => .inl h), k + 1, by have := HN1.out; simpa using this, by have := HKZ.out; have := HB2.out; omega⟩, fun b hb => .inl hb⟩, (HXD.out.mono (fun _ h => by simp at h)).trans HOS.out (fun _ h => .inl h)⟩
              · have hd2 : decide (0 < z) = false := by simpa using hb2
                have HB2 := Lib.hid (And.intro hb1 hb2)
                clear hb1 hb2
                gi_wp2_with (fail)
                refine ⟨⟨[jb], ⟨rfl, HOD.out.trans HOS.out (fun _ h => .inl h), by have := HN1.out; simpa using this, .inr (.inl (by have := HB2.out; omega))⟩, fun b hb => .inl hb⟩, (HXD.out.mono (fun _ h => by simp at h)).trans HOS.out (fun _ h => .inl h)⟩
            · have hd1 : decide (z ≤ (k : Int) + 1) = false := by simpa using hb1
              have HB1 := Lib.hid hb1
              clear hb1
              gi_wp2_with (fail)
              refine ⟨⟨[jb], ⟨rfl, HOD.out.trans HOS.out (fun _ h => .inl h), by have := HN1.out; simpa using this, .inr (.inr (by have := HB1.out; omega))⟩, fun b hb => .inl hb⟩, (HXD.out.mono (fun _ h => by simp at h)).trans HOS.out (fun _ h => .inl h)⟩
        case done2 =>
          intro D2 S V hD hDS hI hKd
          obtain ⟨rfl, hO, hN, -⟩ := hI
          have e1 : (valsN MH).length = MH.length := by simp [valsN]
          rw [e1] at hN
          obtain ⟨jv, hv⟩ : ∃ jv : Nat, jv = MH.length := ⟨_, rfl⟩
          rw [← hv] at hN
          have Hjv := Lib.hid (show jv = MH.length ∨ (jv : Int) = z from .inl hv)
          clear hv e1
          have hDV : D2 < V.heap.size := (Array.getElem?_eq_some_iff.1 hKd).1
          have hwV := hO.size
          have hOw := HOO2.out.trans hO (fun x hx => by simp at hx; have := HO1.out.size; exact .inr (by omega))
          have hXA := hO.blk HXA2.out (by simp; omega)
          have hXH := hO.blk HXH2.out (by simp; omega)
          have hSB := hO.blk HSB2.out (by simp; omega)
          have hRB := hO.blk HRB2.out (by simp; omega)
          have hIB := hO.blk HIO2.out (by simp; omega)
          have hD1 := (hO.block D1 (by omega) (by simp; omega)).trans HDD2.out
          obtain ⟨a0, al⟩ := hXA.facts1
          obtain ⟨b0, bl⟩ := hXH.facts1
          obtain ⟨s0, sl⟩ := hSB.facts1
          obtain ⟨r0, rl⟩ := hRB.facts1
          have rf := hRB.frozen 0
          obtain ⟨i0, il⟩ := hIB.facts1
          obtain ⟨j0, jl⟩ := hN.facts1
          have HRBf := Lib.hid hRB
          have HD1f := Lib.hid hD1
          have HD2f := Lib.hid hKd
          have HOf := Lib.hid hOw
          have hbf : D2 ≠ rb ∧ D1 ≠ D2 := ⟨by have := HRB2.out.lt; omega, by omega⟩
          have HBF := Lib.hid hbf
          clear hO hN hKd hsq2 HNB2 HOO2 HR12 HR22 HXA2 HXH2 HSB2 HRB2 HIB2 HIO2 HDD2 hOw hXA hXH hSB hRB hIB hD1 hbf
          clear HT9 HO9 HR19 HR29 HXA9 HXH9 HSB9 HRB9 HIB9 HD9 HJB HMA HMH HFA HFH HLOW HS1 HB1
          have HVI := Hiv
          have HVJ := Hjv
          have ci : ((iv : Int) == (MA.length : Int)) = true ∨ ((iv : Int) == (MA.length : Int)) = false ∧ (iv == MA.length) = false ∧ ((iv : Int) == z) = true := by
            by_cases h : iv = MA.length
            · left; simp [h]
            · right; rcases HVI.out with h1 | h1
              · exact absurd h1 h
              · exact ⟨by simp; omega, by simpa using h, by simpa using h1⟩
          have cj : ((jv : Int) == (MH.length : Int)) = true ∨ ((jv : Int) == (MH.length : Int)) = false ∧ (jv == MH.length) = false ∧ ((jv : Int) == z) = true := by
            by_cases h : jv = MH.length
            · left; simp [h]
            · right; rcases HVJ.out with h1 | h1
              · exact absurd h1 h
              · exact ⟨by simp; omega, by simpa using h, by simpa using h1⟩
          clear HVI HVJ Hiv Hjv
          have HRS := Lib.hid (HRBf.out.set_ 0 (.bool true))
          have HOS := Lib.hid (HOf.out.setCell (p := ⟨rb, 0, none⟩) (.inr hwrb) (.bool true))
          have HK2 := Lib.hid (((only_setCell V ⟨rb, 0, none⟩ (.bool true)).block D2 hDV (by simp; exact HBF.out.1)).trans HD2f.out)
          have HK1 := Lib.hid (((only_setCell V ⟨rb, 0, none⟩ (.bool true)).block D1 (by omega) (by simp; exact hb19)).trans HD1f.out)
          clear HRBf HOf HD2f HD1f
          have hww : w.heap.size ≤ w1.heap.size := HO1.out.size
          rcases ci with ci | ⟨ci, ci1, ci2⟩
          · rcases cj with cj | ⟨cj, cj1, cj2⟩
            · go_wp2_with (fail)
              have hne := HBF.out.2
              refine ⟨by simp, .inl ⟨_, _, rfl, run_takeDeferred HK2.out, ?_⟩⟩
              refine ⟨by simp, .inl ⟨_, _, rfl, run_takeDeferred ((World.putObj_heap_other hne).trans HK1.out), ?_⟩⟩
              have k2 : KeepC w.heap.size (V.setCell ⟨rb, 0, none⟩ (.bool true)) ((V.setCell ⟨rb, 0, none⟩ (.bool true)).putObj D2 (.deferred none)) := KeepC.putObj HK2.out rfl (by omega)
              have k1 : KeepC w.heap.size ((V.setCell ⟨rb, 0, none⟩ (.bool true)).putObj D2 (.deferred none)) (((V.setCell ⟨rb, 0, none⟩ (.bool true)).putObj D2 (.deferred none)).putObj D1 (.deferred none)) := KeepC.putObj ((World.putObj_heap_other hne).trans HK1.out) rfl (by omega)
              obtain ⟨x0, _⟩ := (k1.blk (k2.blk HRS.out)).facts1
              exact ⟨.bool true, by simp [results, Try.results5, go_sem, x0], rfl, (HOS.out.keepC k2 (Nat.le_refl _)).keepC k1 (Nat.le_refl _)⟩
            · go_wp2_with (fail)
              have hne := HBF.out.2
              refine ⟨by simp, .inl ⟨_, _, rfl, run_takeDeferred HK2.out, ?_⟩⟩
              refine ⟨by simp, .inl ⟨_, _, rfl, run_takeDeferred ((World.putObj_heap_other hne).trans HK1.out), ?_⟩⟩
              have k2 : KeepC w.heap.size (V.setCell ⟨rb, 0, none⟩ (.bool true)) ((V.setCell ⟨rb, 0, none⟩ (.bool true)).putObj D2 (.deferred none)) := KeepC.putObj HK2.out rfl (by omega)
              have k1 : KeepC w.heap.size ((V.setCell ⟨rb, 0, none⟩ (.bool true)).putObj D2 (.deferred none)) (((V.setCell ⟨rb, 0, none⟩ (.bool true)).putObj D2 (.deferred none)).putObj D1 (.deferred none)) := KeepC.putObj ((World.putObj_heap_other hne).trans HK1.out) rfl (by omega)
              obtain ⟨x0, _⟩ := (k1.blk (k2.blk HRS.out)).facts1
              exact ⟨.bool true, by simp [results, Try.results5, go_sem, x0], rfl, (HOS.out.keepC k2 (Nat.le_refl _)).keepC k1 (Nat.le_refl _)⟩
          · rcases cj with cj | ⟨cj, cj1, cj2⟩
            · go_wp2_with (fail)
              have hne := HBF.out.2
              refine ⟨by simp, .inl ⟨_, _, rfl, run_takeDeferred HK2.out, ?_⟩⟩
              refine ⟨by simp, .inl ⟨_, _, rfl, run_takeDeferred ((World.putObj_heap_other hne).trans HK1.out), ?_⟩⟩
              have k2 : KeepC w.heap.size (V.setCell ⟨rb, 0, none⟩ (.bool true)) ((V.setCell ⟨rb, 0, none⟩ (.bool true)).putObj D2 (.deferred none)) := KeepC.putObj HK2.out rfl (by omega)
              have k1 : KeepC w.heap.size ((V.setCell ⟨rb, 0, none⟩ (.bool true)).putObj D2 (.deferred none)) (((V.setCell ⟨rb, 0, none⟩ (.bool true)).putObj D2 (.deferred none)).putObj D1 (.deferred none)) := KeepC.putObj ((World.putObj_heap_other hne).trans HK1.out) rfl (by omega)
              obtain ⟨x0, _⟩ := (k1.blk (k2.blk HRS.out)).facts1
              exact ⟨.bool true, by simp [results, Try.results5, go_sem, x0], rfl, (HOS.out.keepC k2 (Nat.le_refl _)).keepC k1 (Nat.le_refl _)⟩
            · go_wp2_with (fail)
              have hne := HBF.out.2
              refine ⟨by simp, .inl ⟨_, _, rfl, run_takeDeferred HK2.out, ?_⟩⟩
              refine ⟨by simp, .inl ⟨_, _, rfl, run_takeDeferred ((World.putObj_heap_other hne).trans HK1.out), ?_⟩⟩
              have k2 : KeepC w.heap.size (V.setCell ⟨rb, 0, none⟩ (.bool true)) ((V.setCell ⟨rb, 0, none⟩ (.bool true)).putObj D2 (.deferred none)) := KeepC.putObj HK2.out rfl (by omega)
              have k1 : KeepC w.heap.size ((V.setCell ⟨rb, 0, none⟩ (.bool true)).putObj D2 (.deferred none)) (((V.setCell ⟨rb, 0, none⟩ (.bool true)).putObj D2 (.deferred none)).putObj D1 (.deferred none)) := KeepC.putObj ((World.putObj_heap_other hne).trans HK1.out) rfl (by omega)
              obtain ⟨x0, _⟩ := (k1.blk (k2.blk HRS.out)).facts1
              exact ⟨.bool true, by simp [results, Try.results5, go_sem, x0], rfl, (HOS.out.keepC k2 (Nat.le_refl _)).keepC k1 (Nat.le_refl _)⟩
        case stop2 =>
          intro D2 c9 S V hD hDS hI hKd
          obtain ⟨rfl, rfl, hO, jv, hN, hv⟩ := hI
          have Hjv := Lib.hid (show jv = MH.length ∨ (jv : Int) = z from .inr hv)
          clear hv
          have hDV : D2 < V.heap.size := (Array.getElem?_eq_some_iff.1 hKd).1
          have hwV := hO.size
          have hOw := HOO2.out.trans hO (fun x hx => by simp at hx; have := HO1.out.size; exact .inr (by omega))
          have hXA := hO.blk HXA2.out (by simp; omega)
          have hXH := hO.blk HXH2.out (by simp; omega)
          have hSB := hO.blk HSB2.out (by simp; omega)
          have hRB := hO.blk HRB2.out (by simp; omega)
          have hIB := hO.blk HIO2.out (by simp; omega)
          have hD1 := (hO.block D1 (by omega) (by simp; omega)).trans HDD2.out
          obtain ⟨a0, al⟩ := hXA.facts1
          obtain ⟨b0, bl⟩ := hXH.facts1
          obtain ⟨s0, sl⟩ := hSB.facts1
          obtain ⟨r0, rl⟩ := hRB.facts1
          have rf := hRB.frozen 0
          obtain ⟨i0, il⟩ := hIB.facts1
          obtain ⟨j0, jl⟩ := hN.facts1
          have HRBf := Lib.hid hRB
          have HD1f := Lib.hid hD1
          have HD2f := Lib.hid hKd
          have HOf := Lib.hid hOw
          have hbf : D2 ≠ rb ∧ D1 ≠ D2 := ⟨by have := HRB2.out.lt; omega, by omega⟩
          have HBF := Lib.hid hbf
          clear hO hN hKd hsq2 HNB2 HOO2 HR12 HR22 HXA2 HXH2 HSB2 HRB2 HIB2 HIO2 HDD2 hOw hXA hXH hSB hRB hIB hD1 hbf
          clear HT9 HO9 HR19 HR29 HXA9 HXH9 HSB9 HRB9 HIB9 HD9 HJB HMA HMH HFA HFH HLOW HS1 HB1
          have HVI := Hiv
          have HVJ := Hjv
          have ci : ((iv : Int) == (MA.length : Int)) = true ∨ ((iv : Int) == (MA.length : Int)) = false ∧ (iv == MA.length) = false ∧ ((iv : Int) == z) = true := by
            by_cases h : iv = MA.length
            · left; simp [h]
            · right; rcases HVI.out with h1 | h1
              · exact absurd h1 h
              · exact ⟨by simp; omega, by simpa using h, by simpa using h1⟩
          have cj : ((jv : Int) == (MH.length : Int)) = true ∨ ((jv : Int) == (MH.length : Int)) = false ∧ (jv == MH.length) = false ∧ ((jv : Int) == z) = true := by
            by_cases h : jv = MH.length
            · left; simp [h]
            · right; rcases HVJ.out with h1 | h1
              · exact absurd h1 h
              · exact ⟨by simp; omega, by simpa using h, by simpa using h1⟩
          clear HVI HVJ Hiv Hjv
          have HRS := Lib.hid (HRBf.out.set_ 0 (.bool true))
          have HOS := Lib.hid (HOf.out.setCell (p := ⟨rb, 0, none⟩) (.inr hwrb) (.bool true))
          have HK2 := Lib.hid (((only_setCell V ⟨rb, 0, none⟩ (.bool true)).block D2 hDV (by simp; exact HBF.out.1)).trans HD2f.out)
          have HK1 := Lib.hid (((only_setCell V ⟨rb, 0, none⟩ (.bool true)).block D1 (by omega) (by simp; exact hb19)).trans HD1f.out)
          clear HRBf HOf HD2f HD1f
          have hww : w.heap.size ≤ w1.heap.size := HO1.out.size
          rcases ci with ci | ⟨ci, ci1, ci2⟩
          · rcases cj with cj | ⟨cj, cj1, cj2⟩
            · go_wp2_with (fail)
              have hne := HBF.out.2
              refine ⟨by simp, .inl ⟨_, _, rfl, run_takeDeferred HK2.out, ?_⟩⟩
              refine ⟨by simp, .inl ⟨_, _, rfl, run_takeDeferred ((World.putObj_heap_other hne).trans HK1.out), ?_⟩⟩
              have k2 : KeepC w.heap.size (V.setCell ⟨rb, 0, none⟩ (.bool true)) ((V.setCell ⟨rb, 0, none⟩ (.bool true)).putObj D2 (.deferred none)) := KeepC.putObj HK2.out rfl (by omega)
              have k1 : KeepC w.heap.size ((V.setCell ⟨rb, 0, none⟩ (.bool true)).putObj D2 (.deferred none)) (((V.setCell ⟨rb, 0, none⟩ (.bool true)).putObj D2 (.deferred none)).putObj D1 (.deferred none)) := KeepC.putObj ((World.putObj_heap_other hne).trans HK1.out) rfl (by omega)
              obtain ⟨x0, _⟩ := (k1.blk (k2.blk HRS.out)).facts1
              exact ⟨.bool true, by simp [results, Try.results5, go_sem, x0], rfl, (HOS.out.keepC k2 (Nat.le_refl _)).keepC k1 (Nat.le_refl _)⟩
            · go_wp2_with (fail)
              have hne := HBF.out.2
              refine ⟨by simp, .inl ⟨_, _, rfl, run_takeDeferred HK2.out, ?_⟩⟩
              refine ⟨by simp, .inl ⟨_, _, rfl, run_takeDeferred ((World.putObj_heap_other hne).trans HK1.out), ?_⟩⟩
              have k2 : KeepC w.heap.size (V.setCell ⟨rb, 0, none⟩ (.bool true)) ((V.setCell ⟨rb, 0, none⟩ (.bool true)).putObj D2 (.deferred none)) := KeepC.putObj HK2.out rfl (by omega)
              have k1 : KeepC w.heap.size ((V.setCell ⟨rb, 0, none⟩ (.bool true)).putObj D2 (.deferred none)) (((V.setCell ⟨rb, 0, none⟩ (.bool true)).putObj D2 (.deferred none)).putObj D1 (.deferred none)) := KeepC.putObj ((World.putObj_heap_other hne).trans HK1.out) rfl (by omega)
              obtain ⟨x0, _⟩ := (k1.blk (k2.blk HRS.out)).facts1
              exact ⟨.bool true, by simp [results, Try.results5, go_sem, x0], rfl, (HOS.out.keepC k2 (Nat.le_refl _)).keepC k1 (Nat.le_refl _)⟩
          · rcases cj with cj | ⟨cj, cj1, cj2⟩
            · go_wp2_with (fail)
              have hne := HBF.out.2
              refine ⟨by simp, .inl ⟨_, _, rfl, run_takeDeferred HK2.out, ?_⟩⟩
              refine ⟨by simp, .inl ⟨_, _, rfl, run_takeDeferred ((World.putObj_heap_other hne).trans HK1.out), ?_⟩⟩
              have k2 : KeepC w.heap.size (V.setCell ⟨rb, 0, none⟩ (.bool true)) ((V.setCell ⟨rb, 0, none⟩ (.bool true)).putObj D2 (.deferred none)) := KeepC.putObj HK2.out rfl (by omega)
              have k1 : KeepC w.heap.size ((V.setCell ⟨rb, 0, none⟩ (.bool true)).putObj D2 (.deferred none)) (((V.setCell ⟨rb, 0, none⟩ (.bool true)).putObj D2 (.deferred none)).putObj D1 (.deferred none)) := KeepC.putObj ((World.putObj_heap_other hne).trans HK1.out) rfl (by omega)
              obtain ⟨x0, _⟩ := (k1.blk (k2.blk HRS.out)).facts1
              exact ⟨.bool true, by simp [results, Try.results5, go_sem, x0], rfl, (HOS.out.keepC k2 (Nat.le_refl _)).keepC k1 (Nat.le_refl _)⟩
            · go_wp2_with (fail)
              have hne := HBF.out.2
              refine ⟨by simp, .inl ⟨_, _, rfl, run_takeDeferred HK2.out, ?_⟩⟩
              refine ⟨by simp, .inl ⟨_, _, rfl, run_takeDeferred ((World.putObj_heap_other hne).trans HK1.out), ?_⟩⟩
              have k2 : KeepC w.heap.size (V.setCell ⟨rb, 0, none⟩ (.bool true)) ((V.setCell ⟨rb, 0, none⟩ (.bool true)).putObj D2 (.deferred none)) := KeepC.putObj HK2.out rfl (by omega)
              have k1 : KeepC w.heap.size ((V.setCell ⟨rb, 0, none⟩ (.bool true)).putObj D2 (.deferred none)) (((V.setCell ⟨rb, 0, none⟩ (.bool true)).putObj D2 (.deferred none)).putObj D1 (.deferred none)) := KeepC.putObj ((World.putObj_heap_other hne).trans HK1.out) rfl (by omega)
              obtain ⟨x0, _⟩ := (k1.blk (k2.blk HRS.out)).facts1
              exact ⟨.bool true, by simp [results, Try.results5, go_sem, x0], rfl, (HOS.out.keepC k2 (Nat.le_refl _)).keepC k1 (Nat.le_refl _)⟩
      case stop1 =>
        intro D1 c9 S V hD hDS hI hKd
        obtain ⟨rfl, rfl, hO, iv, hN, hv⟩ := hI
        have Hiv := Lib.hid (show iv = MA.length ∨ (iv : Int) = z from .inr hv)
        clear hv
        have hDV : D1 < V.heap.size := (Array.getElem?_eq_some_iff.1 hKd).1
        have hwV := hO.size
        have HTV := Lib.hid (HNB1.out.only hO (fun x hx hm => by have := HLOW.out x hx; simp at hm; omega) (fun x hx => by simp at hx; omega))
        have HOV := Lib.hid (HOO1.out.trans hO (fun x hx => by simp at hx; have := HO1.out.size; exact .inr (by omega)))
        have HR1V := Lib.hid (HR11.out.besides hO (fun p hp => by have := HFA.out p hp; simp; omega))
        have HR2V := Lib.hid (HR21.out.besides hO (fun p hp => by have := HFH.out p hp; simp; omega))
        have HXAV := Lib.hid (hO.blk HXA1.out (by simp; omega))
        have HXHV := Lib.hid (hO.blk HXH1.out (by simp; omega))
        have HSBV := Lib.hid (hO.blk HSB1.out (by simp; omega))
        have HRBV := Lib.hid (hO.blk HRB1.out (by simp; omega))
        have HIBV := Lib.hid hN
        have HDV := Lib.hid hKd
        clear hO hN hKd hsq1 HNB1 HOO1 HR11 HR21 HXA1 HXH1 HSB1 HRB1 HIB1 HT7 HO7 HR1' HR2' HXA HXH HIB HSB HRB
        have hb19 : D1 ≠ rb := by have := HRBV.out.lt; omega
        go_wp2_with (fail)
        have o9 : Only [] V (V.alloc (.cells #[.int .i64 0] 3)) := (Only.refl _ _).alloc _
        have HJB := Lib.hid (Blk.new V 3 #[.int .i64 0])
        have HT9 := Lib.hid (HTV.out.keep o9)
        have HO9 := Lib.hid (HOV.out.trans o9 (by simp))
        have HR19 := Lib.hid (HR1V.out.only o9)
        have HR29 := Lib.hid (HR2V.out.only o9)
        have HXA9 := Lib.hid (o9.blk HXAV.out (by simp))
        have HXH9 := Lib.hid (o9.blk HXHV.out (by simp))
        have HSB9 := Lib.hid (o9.blk HSBV.out (by simp))
        have HRB9 := Lib.hid (o9.blk HRBV.out (by simp))
        have HIB9 := Lib.hid (o9.blk HIBV.out (by simp))
        have HD9 := Lib.hid ((o9.block D1 hDV (by simp)).trans HDV.out)
        have hibV : ib < V.heap.size := HIBV.out.lt
        obtain ⟨jb, hjb⟩ : ∃ jb, V.heap.size = jb := ⟨_, rfl⟩
        have hij : ib < jb ∧ D1 < jb := by omega
        rw [hjb] at HJB ⊢
        clear o9 HTV HOV HR1V HR2V HXAV HXHV HSBV HRBV HIBV HDV hjb hibV hwV hDV
        generalize V.alloc (.cells #[.int .i64 0] 3) = w9 at *
        refine (nheads_any _ _ rfl w9).mono ?_
        rintro e w10 ⟨rfl, rfl⟩
        go_wp2_with (fail)
        have ox2 : Only [] w9 (w9.alloc (.cells #[.pointer (some ⟨g, 0, none⟩)] 24)) := (Only.refl _ _).alloc _
        have hbx2 := Blk.new w9 24 #[.pointer (some ⟨g, 0, none⟩)]
        have hsq2 := nheads_seqs (HT9.out.nb.keep ox2) hbx2
        have HNB2 := Lib.hid (HT9.out.keep ox2)
        have HOO2 := Lib.hid (HO9.out.trans ox2 (by simp))
        have HR12 := Lib.hid (HR19.out.only ox2)
        have HR22 := Lib.hid (HR29.out.only ox2)
        have HXA2 := Lib.hid (ox2.blk HXA9.out (by simp))
        have HXH2 := Lib.hid (ox2.blk HXH9.out (by simp))
        have HIB2 := Lib.hid (ox2.blk HJB.out (by simp))
        have HIO2 := Lib.hid (ox2.blk HIB9.out (by simp))
        have HSB2 := Lib.hid (ox2.blk HSB9.out (by simp))
        have HRB2 := Lib.hid (ox2.blk HRB9.out (by simp))
        have HDD2 := Lib.hid ((ox2.block D1 (Array.getElem?_eq_some_iff.1 HD9.out).1 (by simp)).trans HD9.out)
        have hmw2 : w1.heap.size ≤ (w9.alloc (.cells #[.pointer (some ⟨g, 0, none⟩)] 24)).heap.size := HNB2.out.o.size
        have hib2 : jb < (w9.alloc (.cells #[.pointer (some ⟨g, 0, none⟩)] 24)).heap.size := HIB2.out.lt
        clear hbx2 ox2
        obtain ⟨cb2, hcb2⟩ : ∃ cb, w9.heap.size = cb := ⟨_, rfl⟩
        rw [hcb2] at hsq2 ⊢
        clear hcb2
        generalize w9.alloc (.cells #[.pointer (some ⟨g, 0, none⟩)] 24) = w10 at *
        rw [HMH.out] at hsq2
        refine' wp_rangeFunc_seqsT (gf := 27) (lb := #[.pointer (some ⟨cb2, 0, none⟩)]) (vs := valsN MH) (prot := []) rfl (enters Try.func27 (by kernel_rfl) rfl)
          hsq2 (by intro v hv; simp only [valsN, List.mem_map] at hv; obtain ⟨_, _, rfl⟩ := hv; rfl) [jb] (by simp; omega) (by simp)
          (fun k S V => S = [jb] ∧ Only [jb] w10 V ∧ Blk V jb 3 #[.int .i64 (k : Int)] ∧ (k = 0 ∨ z = 0 ∨ (k : Int) < z))
          (fun c S V => c = .exit 4 ∧ S = [jb] ∧ Only [jb] w10 V ∧ ∃ j : Nat, Blk V jb 3 #[.int .i64 (j : Int)] ∧ (j : Int) = z) ?hI3 ?hIx3 ?h03
          _ (fun k V => V.alloc (.cells #[.int .i64 (gI MH k).1.1, .int .i64 (gI MH k).1.2] 50)) (fun k V => (Only.refl [] V).alloc _) ?assign3 ?body3 ?done3 ?stop3
        case assign3 =>
          intro l0 k v X K hv hKK
          obtain rfl : #[.agg #[.int .i64 (gI MH k).1.1, .int .i64 (gI MH k).1.2], .int .i64 (gI MH k).2] = v := by
            obtain ⟨e, he, rfl⟩ := valsN_of hv
            have e2 : gI MH k = e := by unfold gI; rw [he]; rfl
            rw [e2]
          clear hv
          gi_wp2
          exact hKK
        case hI3 =>
          rintro k S V1 V2 ⟨rfl, h1, h2, h3⟩ hk
          exact ⟨rfl, h1.keepT hk (Nat.le_refl _), hk.blk h2 (.inr (by simp)), h3⟩
        case hIx3 =>
          rintro c S V1 V2 ⟨h1, rfl, h2, j, h3, h4⟩ hk
          exact ⟨h1, rfl, h2.keepT hk (Nat.le_refl _), j, hk.blk h3 (.inr (by simp)), h4⟩
        case h03 => exact ⟨rfl, Only.refl _ _, HIB2.out, .inl rfl⟩
        case body3 =>
          intro l0 k vv S V X hv hI hk
          obtain ⟨rfl, hO, hN, hkz⟩ := hI
          obtain ⟨e, he, rfl⟩ := valsN_of hv
          have e2 : gI MH k = e := by unfold gI; rw [he]; rfl
          have hkM : k < MH.length := (List.getElem?_eq_some_iff.1 he).1
          have hXK := hO.blk HXH2.out (by simp; omega)
          have hSK := hO.blk HSB2.out (by simp; omega)
          have hRow := (HR22.out).besides hO (fun p hp => by have := HFH.out p hp; simp; omega)
          obtain ⟨b, o, hA, hbl, d0, d1, d2⟩ := row3_at hRow he
          subst hA
          have hPK := hk.blk (Blk.new V 50 #[.int .i64 (gI MH k).1.1, .int .i64 (gI MH k).1.2])
          obtain ⟨pb, hpb⟩ : ∃ pb, V.heap.size = pb := ⟨_, rfl⟩
          rw [e2] at hPK ⊢
          rw [hpb] at hPK ⊢
          have HNK := Lib.hid hN
          have HXK := Lib.hid hXK
          have HSK := Lib.hid hSK
          have HPK := Lib.hid hPK
          have HOK := Lib.hid hO
          have HKZ := Lib.hid hkz
          have HIZ := Lib.hid (show (0 : Int) ≤ (k : Int) ∧ (k : Int) < (MH.length : Int) from by omega)
          have HGE := Lib.hid (show decide (MH.length ≤ k) = false from by simp; omega)
          have HCL := Lib.hid (show b < X.drew.heap.size ∧ X.drew.cell? ⟨b, o + k * 3, none⟩ = some (.int .i64 e.1.1) ∧ X.drew.cell? ⟨b, o + k * 3 + 1, none⟩ = some (.int .i64 e.1.2) ∧ X.drew.cell? ⟨b, o + k * 3 + 2, none⟩ = some (.int .i64 e.2) from ⟨hbl, d0, d1, d2⟩)
          clear hN hXK hSK hPK hO hkz hRow hbl d0 d1 d2 hv hk he e2 hkM hpb
          gi_wp2_with (fail)
          refine wpIn_region_relR 32 (Only []) (fr := ?frr3) (tl := ?tlr3) (fun iq v wv => match iq with
            | 0 => v = .int .i64 (k : Int)
            | 1 => v = .slice (some ⟨b, o, none⟩) MH.length c6
            | 2 => v = .int .i64 (MH.length : Nat)
            | 3 => v = .bool false
            | 4 => v = .bool false
            | 5 => v = .pointer (some ⟨pb, 0, none⟩)
            | 6 => v = .int .i64 e.1.1
            | 7 => v = .slice (some ⟨b, o, none⟩) MH.length c6
            | 8 => v = .int .i64 (k : Int)
            | 9 => v = .pointer (some ⟨b, o + k * 3, none⟩)
            | 10 => v = .pointer (some ⟨b, o + k * 3, none⟩)
            | 11 => v = .int .i64 e.1.1
            | 12 => v = .bool false
            | 13 => v = .bool false
            | 14 => v = .bool false
            | 15 => v = .pointer (some ⟨pb, 1, none⟩)
            | 16 => v = .int .i64 e.1.2
            | 17 => v = .slice (some ⟨b, o, none⟩) MH.length c6
            | 18 => v = .int .i64 (k : Int)
            | 19 => v = .pointer (some ⟨b, o + k * 3, none⟩)
            | 20 => v = .pointer (some ⟨b, o + k * 3 + 1, none⟩)
            | 21 => v = .int .i64 e.1.2
            | 22 => v = .bool false
            | 23 => v = .bool false
            | 24 => v = .bool false
            | 25 => v = .int .i64 e.2
            | 26 => v = .slice (some ⟨b, o, none⟩) MH.length c6
            | 27 => v = .int .i64 (k : Int)
            | 28 => v = .pointer (some ⟨b, o + k * 3, none⟩)
            | 29 => v = .pointer (some ⟨b, o + k * 3 + 2, none⟩)
            | 30 => v = .int .i64 e.2
            | 31 => v = .bool false
            | _ => True) (.inr ⟨_, rfl⟩) (by kernel_rfl) (by kernel_rfl) (by kernel_rfl) (by kernel_rfl) (by kernel_rfl) (by kernel_rfl) (by decide) ?htlr3 ?hfrr3 (Only.refl _ _) (fun _ _ _ h k => h.trans k (fun _ hx => .inl hx)) ?stabr3 ?stepsr3 ?doner3
          case htlr3 => simp only [List.drop_succ_cons, List.drop_zero]; rfl
          case hfrr3 => intro vals; simp only [putAll, dstAt, Act.put, List.getElem?_toArray, List.getElem?_cons_zero, List.getElem?_cons_succ, Option.bind_some, List.setIfInBounds_toArray, List.set_cons_zero, List.set_cons_succ]; rfl
          case stabr3 =>
            intro i v wa wb h
            try dsimp only
            split <;> first | exact id
          case stepsr3 =>
            refine ⟨?_, ?_, ?_, ?_, ?_, ?_, ?_, ?_, ?_, ?_, ?_, ?_, ?_, ?_, ?_, ?_, ?_, ?_, ?_, ?_, ?_, ?_, ?_, ?_, ?_, ?_, ?_, ?_, ?_, ?_, ?_, ?_, trivial⟩
            · intro vals wr hR hp K hK
              dsimp only at hK ⊢
              clear hp
              unfold RunsOp
              have tg := hR.blk (Blk.drew HNK.out) (by simp)
              obtain ⟨k0, kl⟩ := tg.facts1
              clear tg
              go_simp
              exact hK.out _ _ ⟨_, rfl, Only.refl _ _, rfl⟩
            · intro vals wr hR hp K hK
              dsimp only at hK ⊢
              clear hp
              unfold RunsOp
              have tg := hR.blk (Blk.drew HXK.out) (by simp)
              obtain ⟨k0, kl⟩ := tg.facts1
              clear tg
              go_simp
              exact hK.out _ _ ⟨_, rfl, Only.refl _ _, rfl⟩
            · intro vals wr hR hp K hK
              dsimp only at hK ⊢
              obtain ⟨p1, -⟩ := hp
              replace p1 := p1 rfl
              dsimp only at p1
              rw [p1] at hK ⊢
              clear p1
              unfold RunsOp
              go_simp
              exact hK.out _ _ ⟨_, rfl, Only.refl _ _, rfl⟩
            · intro vals wr hR hp K hK
              dsimp only at hK ⊢
              obtain ⟨p0, p2, -⟩ := hp
              replace p0 := p0 rfl
              replace p2 := p2 rfl
              dsimp only at p0 p2
              rw [p0, p2] at hK ⊢
              clear p0 p2
              unfold RunsOp
              have iz := HGE.out
              go_simp
              exact hK.out _ _ ⟨_, rfl, Only.refl _ _, rfl⟩
            · intro vals wr hR hp K hK
              dsimp only at hK ⊢
              obtain ⟨p3, -⟩ := hp
              replace p3 := p3 rfl
              dsimp only at p3
              rw [p3] at hK ⊢
              clear p3
              unfold RunsOp
              go_simp
              exact hK.out _ _ ⟨_, rfl, Only.refl _ _, rfl⟩
            · intro vals wr hR hp K hK
              dsimp only at hK ⊢
              obtain ⟨p4, -⟩ := hp
              replace p4 := p4 rfl
              dsimp only at p4
              rw [p4] at hK ⊢
              clear p4
              unfold RunsOp
              go_simp
              exact hK.out _ _ ⟨_, rfl, Only.refl _ _, rfl⟩
            · intro vals wr hR hp K hK
              dsimp only at hK ⊢
              obtain ⟨p5, p4, -⟩ := hp
              replace p5 := p5 rfl
              replace p4 := p4 rfl
              dsimp only at p5 p4
              rw [p5, p4] at hK ⊢
              clear p5 p4
              unfold RunsOp
              have tg := hR.blk (Blk.drew HPK.out) (by simp)
              obtain ⟨k0, k1, kl⟩ := tg.facts2
              clear tg
              go_simp
              exact hK.out _ _ ⟨_, rfl, Only.refl _ _, rfl⟩
            · intro vals wr hR hp K hK
              dsimp only at hK ⊢
              obtain ⟨p4, -⟩ := hp
              replace p4 := p4 rfl
              dsimp only at p4
              rw [p4] at hK ⊢
              clear p4
              unfold RunsOp
              have tg := hR.blk (Blk.drew HXK.out) (by simp)
              obtain ⟨k0, kl⟩ := tg.facts1
              clear tg
              go_simp
              exact hK.out _ _ ⟨_, rfl, Only.refl _ _, rfl⟩
            · intro vals wr hR hp K hK
              dsimp only at hK ⊢
              obtain ⟨p4, -⟩ := hp
              replace p4 := p4 rfl
              dsimp only at p4
              rw [p4] at hK ⊢
              clear p4
              unfold RunsOp
              have tg := hR.blk (Blk.drew HNK.out) (by simp)
              obtain ⟨k0, kl⟩ := tg.facts1
              clear tg
              go_simp
              exact hK.out _ _ ⟨_, rfl, Only.refl _ _, rfl⟩
            · intro vals wr hR hp K hK
              dsimp only at hK ⊢
              obtain ⟨p7, p8, p4, -⟩ := hp
              replace p7 := p7 rfl
              replace p8 := p8 rfl
              replace p4 := p4 rfl
              dsimp only at p7 p8 p4
              rw [p7, p8, p4] at hK ⊢
              clear p7 p8 p4
              unfold RunsOp
              have iz := HIZ.out
              go_simp
              exact hK.out _ _ ⟨_, rfl, Only.refl _ _, rfl⟩
            · intro vals wr hR hp K hK
              dsimp only at hK ⊢
              obtain ⟨p9, p4, -⟩ := hp
              replace p9 := p9 rfl
              replace p4 := p4 rfl
              dsimp only at p9 p4
              rw [p9, p4] at hK ⊢
              clear p9 p4
              unfold RunsOp
              go_simp
              exact hK.out _ _ ⟨_, rfl, Only.refl _ _, rfl⟩
            · intro vals wr hR hp K hK
              dsimp only at hK ⊢
              obtain ⟨p10, p4, -⟩ := hp
              replace p10 := p10 rfl
              replace p4 := p4 rfl
              dsimp only at p10 p4
              rw [p10, p4] at hK ⊢
              clear p10 p4
              unfold RunsOp
              have k0 := (hR.cell (p := ⟨b, o + k * 3, none⟩) HCL.out.1 (by simp)).trans HCL.out.2.1
              go_simp
              exact hK.out _ _ ⟨_, rfl, Only.refl _ _, rfl⟩
            · intro vals wr hR hp K hK
              dsimp only at hK ⊢
              obtain ⟨p6, p11, p4, -⟩ := hp
              replace p6 := p6 rfl
              replace p11 := p11 rfl
              replace p4 := p4 rfl
              dsimp only at p6 p11 p4
              rw [p6, p11, p4] at hK ⊢
              clear p6 p11 p4
              unfold RunsOp
              go_simp
              exact hK.out _ _ ⟨_, rfl, Only.refl _ _, rfl⟩
            · intro vals wr hR hp K hK
              dsimp only at hK ⊢
              obtain ⟨p4, p12, -⟩ := hp
              replace p4 := p4 rfl
              replace p12 := p12 rfl
              dsimp only at p4 p12
              rw [p4, p12] at hK ⊢
              clear p4 p12
              unfold RunsOp
              go_simp
              exact hK.out _ _ ⟨_, rfl, Only.refl _ _, rfl⟩
            · intro vals wr hR hp K hK
              dsimp only at hK ⊢
              obtain ⟨p13, -, -⟩ := hp
              replace p13 := p13 rfl
              dsimp only at p13
              rw [p13] at hK ⊢
              clear p13
              unfold RunsOp
              go_simp
              exact hK.out _ _ ⟨_, rfl, Only.refl _ _, rfl⟩
            · intro vals wr hR hp K hK
              dsimp only at hK ⊢
              obtain ⟨p14, -⟩ := hp
              replace p14 := p14 rfl
              dsimp only at p14
              rw [p14] at hK ⊢
              clear p14
              unfold RunsOp
              go_simp
              exact hK.out _ _ ⟨_, rfl, Only.refl _ _, rfl⟩
            · intro vals wr hR hp K hK
              dsimp only at hK ⊢
              obtain ⟨p15, p14, -⟩ := hp
              replace p15 := p15 rfl
              replace p14 := p14 rfl
              dsimp only at p15 p14
              rw [p15, p14] at hK ⊢
              clear p15 p14
              unfold RunsOp
              have tg := hR.blk (Blk.drew HPK.out) (by simp)
              obtain ⟨k0, k1, kl⟩ := tg.facts2
              clear tg
              go_simp
              exact hK.out _ _ ⟨_, rfl, Only.refl _ _, rfl⟩
            · intro vals wr hR hp K hK
              dsimp only at hK ⊢
              obtain ⟨p14, -⟩ := hp
              replace p14 := p14 rfl
              dsimp only at p14
              rw [p14] at hK ⊢
              clear p14
              unfold RunsOp
              have tg := hR.blk (Blk.drew HXK.out) (by simp)
              obtain ⟨k0, kl⟩ := tg.facts1
              clear tg
              go_simp
              exact hK.out _ _ ⟨_, rfl, Only.refl _ _, rfl⟩
            · intro vals wr hR hp K hK
              dsimp only at hK ⊢
              obtain ⟨p14, -⟩ := hp
              replace p14 := p14 rfl
              dsimp only at p14
              rw [p14] at hK ⊢
              clear p14
              unfold RunsOp
              have tg := hR.blk (Blk.drew HNK.out) (by simp)
              obtain ⟨k0, kl⟩ := tg.facts1
              clear tg
              go_simp
              exact hK.out _ _ ⟨_, rfl, Only.refl _ _, rfl⟩
            · intro vals wr hR hp K hK
              dsimp only at hK ⊢
              obtain ⟨p17, p18, p14, -⟩ := hp
              replace p17 := p17 rfl
              replace p18 := p18 rfl
              replace p14 := p14 rfl
              dsimp only at p17 p18 p14
              rw [p17, p18, p14] at hK ⊢
              clear p17 p18 p14
              unfold RunsOp
              have iz := HIZ.out
              go_simp
              exact hK.out _ _ ⟨_, rfl, Only.refl _ _, rfl⟩
            · intro vals wr hR hp K hK
              dsimp only at hK ⊢
              obtain ⟨p19, p14, -⟩ := hp
              replace p19 := p19 rfl
              replace p14 := p14 rfl
              dsimp only at p19 p14
              rw [p19, p14] at hK ⊢
              clear p19 p14
              unfold RunsOp
              go_simp
              exact hK.out _ _ ⟨_, rfl, Only.refl _ _, rfl⟩
            · intro vals wr hR hp K hK
              dsimp only at hK ⊢
              obtain ⟨p20, p14, -⟩ := hp
              replace p20 := p20 rfl
              replace p14 := p14 rfl
              dsimp only at p20 p14
              rw [p20, p14] at hK ⊢
              clear p20 p14
              unfold RunsOp
              have k0 := (hR.cell (p := ⟨b, o + k * 3 + 1, none⟩) HCL.out.1 (by simp)).trans HCL.out.2.2.1
              go_simp
              exact hK.out _ _ ⟨_, rfl, Only.refl _ _, rfl⟩
            · intro vals wr hR hp K hK
              dsimp only at hK ⊢
              obtain ⟨p16, p21, p14, -⟩ := hp
              replace p16 := p16 rfl
              replace p21 := p21 rfl
              replace p14 := p14 rfl
              dsimp only at p16 p21 p14
              rw [p16, p21, p14] at hK ⊢
              clear p16 p21 p14
              unfold RunsOp
              go_simp
              exact hK.out _ _ ⟨_, rfl, Only.refl _ _, rfl⟩
            · intro vals wr hR hp K hK
              dsimp only at hK ⊢
              obtain ⟨p14, p22, -⟩ := hp
              replace p14 := p14 rfl
              replace p22 := p22 rfl
              dsimp only at p14 p22
              rw [p14, p22] at hK ⊢
              clear p14 p22
              unfold RunsOp
              go_simp
              exact hK.out _ _ ⟨_, rfl, Only.refl _ _, rfl⟩
            · intro vals wr hR hp K hK
              dsimp only at hK ⊢
              obtain ⟨p23, -, -⟩ := hp
              replace p23 := p23 rfl
              dsimp only at p23
              rw [p23] at hK ⊢
              clear p23
              unfold RunsOp
              go_simp
              exact hK.out _ _ ⟨_, rfl, Only.refl _ _, rfl⟩
            · intro vals wr hR hp K hK
              dsimp only at hK ⊢
              obtain ⟨p24, -⟩ := hp
              replace p24 := p24 rfl
              dsimp only at p24
              rw [p24] at hK ⊢
              clear p24
              unfold RunsOp
              go_simp
              exact hK.out _ _ ⟨_, rfl, Only.refl _ _, rfl⟩
            · intro vals wr hR hp K hK
              dsimp only at hK ⊢
              obtain ⟨p24, -⟩ := hp
              replace p24 := p24 rfl
              dsimp only at p24
              rw [p24] at hK ⊢
              clear p24
              unfold RunsOp
              have tg := hR.blk (Blk.drew HXK.out) (by simp)
              obtain ⟨k0, kl⟩ := tg.facts1
              clear tg
              go_simp
              exact hK.out _ _ ⟨_, rfl, Only.refl _ _, rfl⟩
            · intro vals wr hR hp K hK
              dsimp only at hK ⊢
              obtain ⟨p24, -⟩ := hp
              replace p24 := p24 rfl
              dsimp only at p24
              rw [p24] at hK ⊢
              clear p24
              unfold RunsOp
              have tg := hR.blk (Blk.drew HNK.out) (by simp)
              obtain ⟨k0, kl⟩ := tg.facts1
              clear tg
              go_simp
              exact hK.out _ _ ⟨_, rfl, Only.refl _ _, rfl⟩
            · intro vals wr hR hp K hK
              dsimp only at hK ⊢
              obtain ⟨p26, p27, p24, -⟩ := hp
              replace p26 := p26 rfl
              replace p27 := p27 rfl
              replace p24 := p24 rfl
              dsimp only at p26 p27 p24
              rw [p26, p27, p24] at hK ⊢
              clear p26 p27 p24
              unfold RunsOp
              have iz := HIZ.out
              go_simp
              exact hK.out _ _ ⟨_, rfl, Only.refl _ _, rfl⟩
            · intro vals wr hR hp K hK
              dsimp only at hK ⊢
              obtain ⟨p28, p24, -⟩ := hp
              replace p28 := p28 rfl
              replace p24 := p24 rfl
              dsimp only at p28 p24
              rw [p28, p24] at hK ⊢
              clear p28 p24
              unfold RunsOp
              go_simp
              exact hK.out _ _ ⟨_, rfl, Only.refl _ _, rfl⟩
            · intro vals wr hR hp K hK
              dsimp only at hK ⊢
              obtain ⟨p29, p24, -⟩ := hp
              replace p29 := p29 rfl
              replace p24 := p24 rfl
              dsimp only at p29 p24
              rw [p29, p24] at hK ⊢
              clear p29 p24
              unfold RunsOp
              have k0 := (hR.cell (p := ⟨b, o + k * 3 + 2, none⟩) HCL.out.1 (by simp)).trans HCL.out.2.2.2
              go_simp
              exact hK.out _ _ ⟨_, rfl, Only.refl _ _, rfl⟩
            · intro vals wr hR hp K hK
              dsimp only at hK ⊢
              obtain ⟨p25, p30, p24, -⟩ := hp
              replace p25 := p25 rfl
              replace p30 := p30 rfl
              replace p24 := p24 rfl
              dsimp only at p25 p30 p24
              rw [p25, p30, p24] at hK ⊢
              clear p25 p30 p24
              unfold RunsOp
              go_simp
              exact hK.out _ _ ⟨_, rfl, Only.refl _ _, rfl⟩
          case doner3 =>
            intro vals wd hR hF
            have f0 : vals 0 = .int .i64 (k : Int) := hF 0 (by decide)
            have f1 : vals 1 = .slice (some ⟨b, o, none⟩) MH.length c6 := hF 1 (by decide)
            have f2 : vals 2 = .int .i64 (MH.length : Nat) := hF 2 (by decide)
            have f3 : vals 3 = .bool false := hF 3 (by decide)
            have f4 : vals 4 = .bool false := hF 4 (by decide)
            have f5 : vals 5 = .pointer (some ⟨pb, 0, none⟩) := hF 5 (by decide)
            have f6 : vals 6 = .int .i64 e.1.1 := hF 6 (by decide)
            have f7 : vals 7 = .slice (some ⟨b, o, none⟩) MH.length c6 := hF 7 (by decide)
            have f8 : vals 8 = .int .i64 (k : Int) := hF 8 (by decide)
            have f9 : vals 9 = .pointer (some ⟨b, o + k * 3, none⟩) := hF 9 (by decide)
            have f10 : vals 10 = .pointer (some ⟨b, o + k * 3, none⟩) := hF 10 (by decide)
            have f11 : vals 11 = .int .i64 e.1.1 := hF 11 (by decide)
            have f12 : vals 12 = .bool false := hF 12 (by decide)
            have f13 : vals 13 = .bool false := hF 13 (by decide)
            have f14 : vals 14 = .bool false := hF 14 (by decide)
            have f15 : vals 15 = .pointer (some ⟨pb, 1, none⟩) := hF 15 (by decide)
            have f16 : vals 16 = .int .i64 e.1.2 := hF 16 (by decide)
            have f17 : vals 17 = .slice (some ⟨b, o, none⟩) MH.length c6 := hF 17 (by decide)
            have f18 : vals 18 = .int .i64 (k : Int) := hF 18 (by decide)
            have f19 : vals 19 = .pointer (some ⟨b, o + k * 3, none⟩) := hF 19 (by decide)
            have f20 : vals 20 = .pointer (some ⟨b, o + k * 3 + 1, none⟩) := hF 20 (by decide)
            have f21 : vals 21 = .int .i64 e.1.2 := hF 21 (by decide)
            have f22 : vals 22 = .bool false := hF 22 (by decide)
            have f23 : vals 23 = .bool false := hF 23 (by decide)
            have f24 : vals 24 = .bool false := hF 24 (by decide)
            have f25 : vals 25 = .int .i64 e.2 := hF 25 (by decide)
            have f26 : vals 26 = .slice (some ⟨b, o, none⟩) MH.length c6 := hF 26 (by decide)
            have f27 : vals 27 = .int .i64 (k : Int) := hF 27 (by decide)
            have f28 : vals 28 = .pointer (some ⟨b, o + k * 3, none⟩) := hF 28 (by decide)
            have f29 : vals 29 = .pointer (some ⟨b, o + k * 3 + 2, none⟩) := hF 29 (by decide)
            have f30 : vals 30 = .int .i64 e.2 := hF 30 (by decide)
            have f31 : vals 31 = .bool false := hF 31 (by decide)
            rw [f0, f1, f2, f3, f4, f5, f6, f7, f8, f9, f10, f11, f12, f13, f14, f15, f16, f17, f18, f19, f20, f21, f22, f23, f24, f25, f26, f27, f28, f29, f30, f31]
            clear f0 f1 f2 f3 f4 f5 f6 f7 f8 f9 f10 f11 f12 f13 f14 f15 f16 f17 f18 f19 f20 f21 f22 f23 f24 f25 f26 f27 f28 f29 f30 f31
            have oXd : Only [] X wd := ((Only.refl [] X).drew).trans hR (by simp)
            have hNd := oXd.blk HNK.out (by simp)
            have hSd := oXd.blk HSK.out (by simp)
            obtain ⟨n0, nl⟩ := hNd.facts1
            have nf := hNd.frozen 0
            obtain ⟨s0, sl⟩ := hSd.facts1
            have hsi : ¬ jb = sb := by omega
            have hsi' : ¬ sb = jb := by omega
            have HND := Lib.hid hNd
            have HOD := Lib.hid (HOK.out.trans oXd (by simp))
            have HXD := Lib.hid oXd
            have hmx : (k : Int) < 72000000 := by have := HIZ.out; omega
            have hk0 : (0 : Int) ≤ (k : Int) := HIZ.out.1
            clear oXd hNd hSd hR hF
            have oS := only_setCell wd ⟨jb, 0, none⟩ (.int .i64 ((k : Int) + 1))
            have hN1 := HND.out.set_ 0 (.int .i64 ((k : Int) + 1))
            have HOS := Lib.hid oS
            have HN1 := Lib.hid hN1
            clear oS hN1
            by_cases hb1 : z ≤ (k : Int) + 1
            · have hd1 : decide (z ≤ (k : Int) + 1) = true := by simpa using hb1
              by_cases hb2 : 0 < z
              · have hd2 : decide (0 < z) = true := by simpa using hb2
                have HB2 := Lib.hid (And.intro hb1 hb2)
                clear hb1 hb2
                gi_wp2_with (fail)
                refine ⟨⟨[jb], ⟨rfl, rfl, HOD.out.trans HOS.out (fun _ h => .inl h), k + 1, by have := HN1.out; simpa using this, by have := HKZ.out; have := HB2.out; omega⟩, fun b hb => .inl hb⟩, (HXD.out.mono (fun _ h => by simp at h)).trans HOS.out (fun _ h => .inl h)⟩
              · have hd2 : decide (0 < z) = false := by simpa using hb2
                have HB2 := Lib.hid (And.intro hb1 hb2)
                clear hb1 hb2
                gi_wp2_with (fail)
                refine ⟨⟨[jb], ⟨rfl, HOD.out.trans HOS.out (fun _ h => .inl h), by have := HN1.out; simpa using this, .inr (.inl (by have := HB2.out; omega))⟩, fun b hb => .inl hb⟩, (HXD.out.mono (fun _ h => by simp at h)).trans HOS.out (fun _ h => .inl h)⟩
            · have hd1 : decide (z ≤ (k : Int) + 1) = false := by simpa using hb1
              have HB1 := Lib.hid hb1
              clear hb1
              gi_wp2_with (fail)
              refine ⟨⟨[jb], ⟨rfl, HOD.out.trans HOS.out (fun _ h => .inl h), by have := HN1.out; simpa using this, .inr (.inr (by have := HB1.out; omega))⟩, fun b hb => .inl hb⟩, (HXD.out.mono (fun _ h => by simp at h)).trans HOS.out (fun _ h => .inl h)⟩
        case done3 =>
          intro D2 S V hD hDS hI hKd
          obtain ⟨rfl, hO, hN, -⟩ := hI
          have e1 : (valsN MH).length = MH.length := by simp [valsN]
          rw [e1] at hN
          obtain ⟨jv, hv⟩ : ∃ jv : Nat, jv = MH.length := ⟨_, rfl⟩
          rw [← hv] at hN
          have Hjv := Lib.hid (show jv = MH.length ∨ (jv : Int) = z from .inl hv)
          clear hv e1
          have hDV : D2 < V.heap.size := (Array.getElem?_eq_some_iff.1 hKd).1
          have hwV := hO.size
          have hOw := HOO2.out.trans hO (fun x hx => by simp at hx; have := HO1.out.size; exact .inr (by omega))
          have hXA := hO.blk HXA2.out (by simp; omega)
          have hXH := hO.blk HXH2.out (by simp; omega)
          have hSB := hO.blk HSB2.out (by simp; omega)
          have hRB := hO.blk HRB2.out (by simp; omega)
          have hIB := hO.blk HIO2.out (by simp; omega)
          have hD1 := (hO.block D1 (by omega) (by simp; omega)).trans HDD2.out
          obtain ⟨a0, al⟩ := hXA.facts1
          obtain ⟨b0, bl⟩ := hXH.facts1
          obtain ⟨s0, sl⟩ := hSB.facts1
          obtain ⟨r0, rl⟩ := hRB.facts1
          have rf := hRB.frozen 0
          obtain ⟨i0, il⟩ := hIB.facts1
          obtain ⟨j0, jl⟩ := hN.facts1
          have HRBf := Lib.hid hRB
          have HD1f := Lib.hid hD1
          have HD2f := Lib.hid hKd
          have HOf := Lib.hid hOw
          have hbf : D2 ≠ rb ∧ D1 ≠ D2 := ⟨by have := HRB2.out.lt; omega, by omega⟩
          have HBF := Lib.hid hbf
          clear hO hN hKd hsq2 HNB2 HOO2 HR12 HR22 HXA2 HXH2 HSB2 HRB2 HIB2 HIO2 HDD2 hOw hXA hXH hSB hRB hIB hD1 hbf
          clear HT9 HO9 HR19 HR29 HXA9 HXH9 HSB9 HRB9 HIB9 HD9 HJB HMA HMH HFA HFH HLOW HS1 HB1
          have HVI := Hiv
          have HVJ := Hjv
          have ci : ((iv : Int) == (MA.length : Int)) = true ∨ ((iv : Int) == (MA.length : Int)) = false ∧ (iv == MA.length) = false ∧ ((iv : Int) == z) = true := by
            by_cases h : iv = MA.length
            · left; simp [h]
            · right; rcases HVI.out with h1 | h1
              · exact absurd h1 h
              · exact ⟨by simp; omega, by simpa using h, by simpa using h1⟩
          have cj : ((jv : Int) == (MH.length : Int)) = true ∨ ((jv : Int) == (MH.length : Int)) = false ∧ (jv == MH.length) = false ∧ ((jv : Int) == z) = true := by
            by_cases h : jv = MH.length
            · left; simp [h]
            · right; rcases HVJ.out with h1 | h1
              · exact absurd h1 h
              · exact ⟨by simp; omega, by simpa using h, by simpa using h1⟩
          clear HVI HVJ Hiv Hjv
          have HRS := Lib.hid (HRBf.out.set_ 0 (.bool true))
          have HOS := Lib.hid (HOf.out.setCell (p := ⟨rb, 0, none⟩) (.inr hwrb) (.bool true))
          have HK2 := Lib.hid (((only_setCell V ⟨rb, 0, none⟩ (.bool true)).block D2 hDV (by simp; exact HBF.out.1)).trans HD2f.out)
          have HK1 := Lib.hid (((only_setCell V ⟨rb, 0, none⟩ (.bool true)).block D1 (by omega) (by simp; exact hb19)).trans HD1f.out)
          clear HRBf HOf HD2f HD1f
          have hww : w.heap.size ≤ w1.heap.size := HO1.out.size
          rcases ci with ci | ⟨ci, ci1, ci2⟩
          · rcases cj with cj | ⟨cj, cj1, cj2⟩
            · go_wp2_with (fail)
              have hne := HBF.out.2
              refine ⟨by simp, .inl ⟨_, _, rfl, run_takeDeferred HK2.out, ?_⟩⟩
              refine ⟨by simp, .inl ⟨_, _, rfl, run_takeDeferred ((World.putObj_heap_other hne).trans HK1.out), ?_⟩⟩
              have k2 : KeepC w.heap.size (V.setCell ⟨rb, 0, none⟩ (.bool true)) ((V.setCell ⟨rb, 0, none⟩ (.bool true)).putObj D2 (.deferred none)) := KeepC.putObj HK2.out rfl (by omega)
              have k1 : KeepC w.heap.size ((V.setCell ⟨rb, 0, none⟩ (.bool true)).putObj D2 (.deferred none)) (((V.setCell ⟨rb, 0, none⟩ (.bool true)).putObj D2 (.deferred none)).putObj D1 (.deferred none)) := KeepC.putObj ((World.putObj_heap_other hne).trans HK1.out) rfl (by omega)
              obtain ⟨x0, _⟩ := (k1.blk (k2.blk HRS.out)).facts1
              exact ⟨.bool true, by simp [results, Try.results5, go_sem, x0], rfl, (HOS.out.keepC k2 (Nat.le_refl _)).keepC k1 (Nat.le_refl _)⟩
            · go_wp2_with (fail)
              have hne := HBF.out.2
              refine ⟨by simp, .inl ⟨_, _, rfl, run_takeDeferred HK2.out, ?_⟩⟩
              refine ⟨by simp, .inl ⟨_, _, rfl, run_takeDeferred ((World.putObj_heap_other hne).trans HK1.out), ?_⟩⟩
              have k2 : KeepC w.heap.size (V.setCell ⟨rb, 0, none⟩ (.bool true)) ((V.setCell ⟨rb, 0, none⟩ (.bool true)).putObj D2 (.deferred none)) := KeepC.putObj HK2.out rfl (by omega)
              have k1 : KeepC w.heap.size ((V.setCell ⟨rb, 0, none⟩ (.bool true)).putObj D2 (.deferred none)) (((V.setCell ⟨rb, 0, none⟩ (.bool true)).putObj D2 (.deferred none)).putObj D1 (.deferred none)) := KeepC.putObj ((World.putObj_heap_other hne).trans HK1.out) rfl (by omega)
              obtain ⟨x0, _⟩ := (k1.blk (k2.blk HRS.out)).facts1
              exact ⟨.bool true, by simp [results, Try.results5, go_sem, x0], rfl, (HOS.out.keepC k2 (Nat.le_refl _)).keepC k1 (Nat.le_refl _)⟩
          · rcases cj with cj | ⟨cj, cj1, cj2⟩
            · go_wp2_with (fail)
              have hne := HBF.out.2
              refine ⟨by simp, .inl ⟨_, _, rfl, run_takeDeferred HK2.out, ?_⟩⟩
              refine ⟨by simp, .inl ⟨_, _, rfl, run_takeDeferred ((World.putObj_heap_other hne).trans HK1.out), ?_⟩⟩
              have k2 : KeepC w.heap.size (V.setCell ⟨rb, 0, none⟩ (.bool true)) ((V.setCell ⟨rb, 0, none⟩ (.bool true)).putObj D2 (.deferred none)) := KeepC.putObj HK2.out rfl (by omega)
              have k1 : KeepC w.heap.size ((V.setCell ⟨rb, 0, none⟩ (.bool true)).putObj D2 (.deferred none)) (((V.setCell ⟨rb, 0, none⟩ (.bool true)).putObj D2 (.deferred none)).putObj D1 (.deferred none)) := KeepC.putObj ((World.putObj_heap_other hne).trans HK1.out) rfl (by omega)
              obtain ⟨x0, _⟩ := (k1.blk (k2.blk HRS.out)).facts1
              exact ⟨.bool true, by simp [results, Try.results5, go_sem, x0], rfl, (HOS.out.keepC k2 (Nat.le_refl _)).keepC k1 (Nat.le_refl _)⟩
            · go_wp2_with (fail)
              have hne := HBF.out.2
              refine ⟨by simp, .inl ⟨_, _, rfl, run_takeDeferred HK2.out, ?_⟩⟩
              refine ⟨by simp, .inl ⟨_, _, rfl, run_takeDeferred ((World.putObj_heap_other hne).trans HK1.out), ?_⟩⟩
              have k2 : KeepC w.heap.size (V.setCell ⟨rb, 0, none⟩ (.bool true)) ((V.setCell ⟨rb, 0, none⟩ (.bool true)).putObj D2 (.deferred none)) := KeepC.putObj HK2.out rfl (by omega)
              have k1 : KeepC w.heap.size ((V.setCell ⟨rb, 0, none⟩ (.bool true)).putObj D2 (.deferred none)) (((V.setCell ⟨rb, 0, none⟩ (.bool true)).putObj D2 (.deferred none)).putObj D1 (.deferred none)) := KeepC.putObj ((World.putObj_heap_other hne).trans HK1.out) rfl (by omega)
              obtain ⟨x0, _⟩ := (k1.blk (k2.blk HRS.out)).facts1
              exact ⟨.bool true, by simp [results, Try.results5, go_sem, x0], rfl, (HOS.out.keepC k2 (Nat.le_refl _)).keepC k1 (Nat.le_refl _)⟩
        case stop3 =>
          intro D2 c9 S V hD hDS hI hKd
          obtain ⟨rfl, rfl, hO, jv, hN, hv⟩ := hI
          have Hjv := Lib.hid (show jv = MH.length ∨ (jv : Int) = z from .inr hv)
          clear hv
          have hDV : D2 < V.heap.size := (Array.getElem?_eq_some_iff.1 hKd).1
          have hwV := hO.size
          have hOw := HOO2.out.trans hO (fun x hx => by simp at hx; have := HO1.out.size; exact .inr (by omega))
          have hXA := hO.blk HXA2.out (by simp; omega)
          have hXH := hO.blk HXH2.out (by simp; omega)
          have hSB := hO.blk HSB2.out (by simp; omega)
          have hRB := hO.blk HRB2.out (by simp; omega)
          have hIB := hO.blk HIO2.out (by simp; omega)
          have hD1 := (hO.block D1 (by omega) (by simp; omega)).trans HDD2.out
          obtain ⟨a0, al⟩ := hXA.facts1
          obtain ⟨b0, bl⟩ := hXH.facts1
          obtain ⟨s0, sl⟩ := hSB.facts1
          obtain ⟨r0, rl⟩ := hRB.facts1
          have rf := hRB.frozen 0
          obtain ⟨i0, il⟩ := hIB.facts1
          obtain ⟨j0, jl⟩ := hN.facts1
          have HRBf := Lib.hid hRB
          have HD1f := Lib.hid hD1
          have HD2f := Lib.hid hKd
          have HOf := Lib.hid hOw
          have hbf : D2 ≠ rb ∧ D1 ≠ D2 := ⟨by have := HRB2.out.lt; omega, by omega⟩
          have HBF := Lib.hid hbf
          clear hO hN hKd hsq2 HNB2 HOO2 HR12 HR22 HXA2 HXH2 HSB2 HRB2 HIB2 HIO2 HDD2 hOw hXA hXH hSB hRB hIB hD1 hbf
          clear HT9 HO9 HR19 HR29 HXA9 HXH9 HSB9 HRB9 HIB9 HD9 HJB HMA HMH HFA HFH HLOW HS1 HB1
          have HVI := Hiv
          have HVJ := Hjv
          have ci : ((iv : Int) == (MA.length : Int)) = true ∨ ((iv : Int) == (MA.length : Int)) = false ∧ (iv == MA.length) = false ∧ ((iv : Int) == z) = true := by
            by_cases h : iv = MA.length
            · left; simp [h]
            · right; rcases HVI.out with h1 | h1
              · exact absurd h1 h
              · exact ⟨by simp; omega, by simpa using h, by simpa using h1⟩
          have cj : ((jv : Int) == (MH.length : Int)) = true ∨ ((jv : Int) == (MH.length : Int)) = false ∧ (jv == MH.length) = false ∧ ((jv : Int) == z) = true := by
            by_cases h : jv = MH.length
            · left; simp [h]
            · right; rcases HVJ.out with h1 | h1
              · exact absurd h1 h
              · exact ⟨by simp; omega, by simpa using h, by simpa using h1⟩
          clear HVI HVJ Hiv Hjv
          have HRS := Lib.hid (HRBf.out.set_ 0 (.bool true))
          have HOS := Lib.hid (HOf.out.setCell (p := ⟨rb, 0, none⟩) (.inr hwrb) (.bool true))
          have HK2 := Lib.hid (((only_setCell V ⟨rb, 0, none⟩ (.bool true)).block D2 hDV (by simp; exact HBF.out.1)).trans HD2f.out)
          have HK1 := Lib.hid (((only_setCell V ⟨rb, 0, none⟩ (.bool true)).block D1 (by omega) (by simp; exact hb19)).trans HD1f.out)
          clear HRBf HOf HD2f HD1f
          have hww : w.heap.size ≤ w1.heap.size := HO1.out.size
          rcases ci with ci | ⟨ci, ci1, ci2⟩
          · rcases cj with cj | ⟨cj, cj1, cj2⟩
            · go_wp2_with (fail)
              have hne := HBF.out.2
              refine ⟨by simp, .inl ⟨_, _, rfl, run_takeDeferred HK2.out, ?_⟩⟩
              refine ⟨by simp, .inl ⟨_, _, rfl, run_takeDeferred ((World.putObj_heap_other hne).trans HK1.out), ?_⟩⟩
              have k2 : KeepC w.heap.size (V.setCell ⟨rb, 0, none⟩ (.bool true)) ((V.setCell ⟨rb, 0, none⟩ (.bool true)).putObj D2 (.deferred none)) := KeepC.putObj HK2.out rfl (by omega)
              have k1 : KeepC w.heap.size ((V.setCell ⟨rb, 0, none⟩ (.bool true)).putObj D2 (.deferred none)) (((V.setCell ⟨rb, 0, none⟩ (.bool true)).putObj D2 (.deferred none)).putObj D1 (.deferred none)) := KeepC.putObj ((World.putObj_heap_other hne).trans HK1.out) rfl (by omega)
              obtain ⟨x0, _⟩ := (k1.blk (k2.blk HRS.out)).facts1
              exact ⟨.bool true, by simp [results, Try.results5, go_sem, x0], rfl, (HOS.out.keepC k2 (Nat.le_refl _)).keepC k1 (Nat.le_refl _)⟩
            · go_wp2_with (fail)
              have hne := HBF.out.2
              refine ⟨by simp, .inl ⟨_, _, rfl, run_takeDeferred HK2.out, ?_⟩⟩
              refine ⟨by simp, .inl ⟨_, _, rfl, run_takeDeferred ((World.putObj_heap_other hne).trans HK1.out), ?_⟩⟩
              have k2 : KeepC w.heap.size (V.setCell ⟨rb, 0, none⟩ (.bool true)) ((V.setCell ⟨rb, 0, none⟩ (.bool true)).putObj D2 (.deferred none)) := KeepC.putObj HK2.out rfl (by omega)
              have k1 : KeepC w.heap.size ((V.setCell ⟨rb, 0, none⟩ (.bool true)).putObj D2 (.deferred none)) (((V.setCell ⟨rb, 0, none⟩ (.bool true)).putObj D2 (.deferred none)).putObj D1 (.deferred none)) := KeepC.putObj ((World.putObj_heap_other hne).trans HK1.out) rfl (by omega)
              obtain ⟨x0, _⟩ := (k1.blk (k2.blk HRS.out)).facts1
              exact ⟨.bool true, by simp [results, Try.results5, go_sem, x0], rfl, (HOS.out.keepC k2 (Nat.le_refl _)).keepC k1 (Nat.le_refl _)⟩
          · rcases cj with cj | ⟨cj, cj1, cj2⟩
            · go_wp2_with (fail)
              have hne := HBF.out.2
              refine ⟨by simp, .inl ⟨_, _, rfl, run_takeDeferred HK2.out, ?_⟩⟩
              refine ⟨by simp, .inl ⟨_, _, rfl, run_takeDeferred ((World.putObj_heap_other hne).trans HK1.out), ?_⟩⟩
              have k2 : KeepC w.heap.size (V.setCell ⟨rb, 0, none⟩ (.bool true)) ((V.setCell ⟨rb, 0, none⟩ (.bool true)).putObj D2 (.deferred none)) := KeepC.putObj HK2.out rfl (by omega)
              have k1 : KeepC w.heap.size ((V.setCell ⟨rb, 0, none⟩ (.bool true)).putObj D2 (.deferred none)) (((V.setCell ⟨rb, 0, none⟩ (.bool true)).putObj D2 (.deferred none)).putObj D1 (.deferred none)) := KeepC.putObj ((World.putObj_heap_other hne).trans HK1.out) rfl (by omega)
              obtain ⟨x0, _⟩ := (k1.blk (k2.blk HRS.out)).facts1
              exact ⟨.bool true, by simp [results, Try.results5, go_sem, x0], rfl, (HOS.out.keepC k2 (Nat.le_refl _)).keepC k1 (Nat.le_refl _)⟩
            · go_wp2_with (fail)
              have hne := HBF.out.2
              refine ⟨by simp, .inl ⟨_, _, rfl, run_takeDeferred HK2.out, ?_⟩⟩
              refine ⟨by simp, .inl ⟨_, _, rfl, run_takeDeferred ((World.putObj_heap_other hne).trans HK1.out), ?_⟩⟩
              have k2 : KeepC w.heap.size (V.setCell ⟨rb, 0, none⟩ (.bool true)) ((V.setCell ⟨rb, 0, none⟩ (.bool true)).putObj D2 (.deferred none)) := KeepC.putObj HK2.out rfl (by omega)
              have k1 : KeepC w.heap.size ((V.setCell ⟨rb, 0, none⟩ (.bool true)).putObj D2 (.deferred none)) (((V.setCell ⟨rb, 0, none⟩ (.bool true)).putObj D2 (.deferred none)).putObj D1 (.deferred none)) := KeepC.putObj ((World.putObj_heap_other hne).trans HK1.out) rfl (by omega)
              obtain ⟨x0, _⟩ := (k1.blk (k2.blk HRS.out)).facts1
              exact ⟨.bool true, by simp [results, Try.results5, go_sem, x0], rfl, (HOS.out.keepC k2 (Nat.le_refl _)).keepC k1 (Nat.le_refl _)⟩
theorem linkall_any {A : Option Addr} {cap : Nat} {L : List Ac} {n z : Int} {w : World} (hL : Acs w A L) (hlen : L.length ≤ 9223372036854775807) (hn : 0 ≤ n ∧ n ≤ 255) (hz : 0 ≤ z ∧ z ≤ 255) :
    Calls Try.prog 5 #[.int .u8 n, .slice A L.length cap, .int .u8 z] w fun e w' => e = .returned (.bool true) ∧ Only [] w w' := by
  by_cases h : 200 < L.length
  · exact linkall_many h hlen
  · exact linkall_few hL (by omega) hn hz
end Go.Proofs.Ytlhmhpopppfpkaa
