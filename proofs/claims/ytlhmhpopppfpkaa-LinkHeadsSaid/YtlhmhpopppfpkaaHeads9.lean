/- LinkHeads: the law's own walk. -/
import Derived.Test.YtlhmhpopppfpkaaHeadsS
import Derived.Test.YtlhmhpopppfpkaaLen
import Derived.Deep.LoopGhost
import Derived.StillTailTactics
namespace Go.Proofs.Ytlhmhpopppfpkaa
open Go.RowKit Go.Kx Go.Maps
attribute [local go_sem] Oper.semAt_some
set_option maxRecDepth 100000

theorem frame91 {a : Act} {rb xb : Nat} {Ds : List Nat} (h : a.tmps.size = 91) (h4 : a.tmps[4]? = some (.pointer (some ⟨rb, 0, none⟩))) (h5 : a.tmps[5]? = some (.pointer (some ⟨xb, 0, none⟩))) (hD : a.defers = Ds.map fun D => ({ target := .collected D, args := #[] } : Deferred)) :
    ∃ f : Nat → Value, a = { tmps := #[f 0, f 1, f 2, f 3, .pointer (some ⟨rb, 0, none⟩), .pointer (some ⟨xb, 0, none⟩), f 6, f 7, f 8, f 9, f 10, f 11, f 12, f 13, f 14, f 15, f 16, f 17, f 18, f 19, f 20, f 21, f 22, f 23, f 24, f 25, f 26, f 27, f 28, f 29, f 30, f 31, f 32, f 33, f 34, f 35, f 36, f 37, f 38, f 39, f 40, f 41, f 42, f 43, f 44, f 45, f 46, f 47, f 48, f 49, f 50, f 51, f 52, f 53, f 54, f 55, f 56, f 57, f 58, f 59, f 60, f 61, f 62, f 63, f 64, f 65, f 66, f 67, f 68, f 69, f 70, f 71, f 72, f 73, f 74, f 75, f 76, f 77, f 78, f 79, f 80, f 81, f 82, f 83, f 84, f 85, f 86, f 87, f 88, f 89, f 90], defers := Ds.map fun D => ({ target := .collected D, args := #[] } : Deferred) } := by
  obtain ⟨⟨t⟩, d⟩ := a
  simp only [List.size_toArray, List.getElem?_toArray] at h h4 h5
  dsimp only at hD
  subst hD
  refine ⟨fun i => t.getD i undef, ?_⟩
  have e : t = (List.range 91).map (fun i => t.getD i undef) := by
    refine List.ext_getElem (by simp [h]) (fun i h1 h2 => ?_)
    simp [List.getD, h1]
  have e4 : t.getD 4 undef = .pointer (some ⟨rb, 0, none⟩) := by simp [List.getD, h4]
  have e5 : t.getD 5 undef = .pointer (some ⟨xb, 0, none⟩) := by simp [List.getD, h5]
  rw [← e4, ← e5]
  congr 1
  exact congrArg List.toArray e
theorem linkheads_many {A : Option Addr} {cap : Nat} {L : List Ac} {n : Int} {w : World} (hl : 200 < L.length) (hlen : L.length ≤ 9223372036854775807) :
    Calls Try.prog 6 #[.int .u8 n, .slice A L.length cap] w fun e w' => e = .returned (.bool true) ∧ Only [] w w' := by
  have hg : decide ((200 : Int) < (L.length : Int)) = true := by simp; omega
  have hb0 := Blk.new w 4 #[.bool false]
  have o0 : Only [] w (w.alloc (.cells #[.bool false] 4)) := (Only.refl _ _).alloc _
  go_enter Try.func6, Try.ntmps6
  go_wp2_with (fail)
  refine (awake_any _).mono ?_
  rintro e w1 ⟨rfl, o1⟩
  have HB := Lib.hid (o1.blk hb0 (by simp))
  have HO1 := Lib.hid (o0.trans o1 (by simp))
  clear o0 o1 hb0
  go_wp2_with (fail)
  refine (awake_any _).mono ?_
  rintro e w2 ⟨rfl, o2⟩
  have hb2 := o2.blk HB.out (by simp)
  obtain ⟨c0, cl⟩ := hb2.facts1
  have fr := hb2.frozen 0
  have HB2 := Lib.hid hb2
  have HO2 := Lib.hid (HO1.out.trans o2 (by simp))
  clear o2 hb2
  go_wp2_with (fail)
  obtain ⟨e0, _⟩ := (HB2.out.set_ 0 (.bool true)).facts1
  exact bodyPost_ret (v := .bool true) (by simp [results, Try.results6, go_sem, e0]) rfl ⟨rfl, HO2.out.setCell (.inr (by simp)) _⟩
set_option maxHeartbeats 8000000 in
theorem linkheads_few {A : Option Addr} {cap : Nat} {L : List Ac} {n : Int} {w : World} (hL : Acs w A L) (hl : L.length ≤ 200) (hn : 0 ≤ n ∧ n ≤ 255) :
    Calls Try.prog 6 #[.int .u8 n, .slice A L.length cap] w fun e w' => e = .returned (.bool true) ∧ Only [] w w' := by
  have hg : decide ((200 : Int) < (L.length : Int)) = false := by simp; omega
  obtain ⟨N, hNd⟩ : ∃ N : Nat, (1 + n % 8 : Int) = N := ⟨(1 + n % 8).toNat, by omega⟩
  have hN : 1 ≤ N ∧ N ≤ 8 := by omega
  have hn0 := hn.1
  have hn1 := hn.2
  have t := fun w => new_net N 50 hN (by omega) w
  have hb0 := Blk.new w 4 #[.bool false]
  have o0 : Only [] w (w.alloc (.cells #[.bool false] 4)) := (Only.refl _ _).alloc _
  have HL := Lib.hid hL
  clear hL
  refine calls_marks Try.func6 rfl ?_
  simp only [Try.ntmps6, List.size_toArray, List.length_cons, List.length_nil, Nat.reduceAdd, Nat.reduceSub, Array.replicate_succ, Array.replicate_zero, List.push_toArray, List.append_toArray, List.nil_append, List.cons_append]
  go_wp2_with (fail)
  obtain ⟨rb, hrb⟩ : ∃ rb, w.heap.size = rb := ⟨_, rfl⟩
  have hwrb : w.heap.size ≤ rb := by omega
  rw [hrb] at hb0 ⊢
  generalize w.alloc (.cells #[.bool false] 4) = wa at *
  clear hrb
  refine (awake_any _).mono ?_
  rintro e w1 ⟨rfl, o1⟩
  have HB1 := Lib.hid (o1.blk hb0 (by simp))
  have HO1 := Lib.hid (o0.trans o1 (by simp))
  clear o0 o1 hb0
  go_wp2_with (fail)
  refine (t w1).mono ?_
  rintro e w2 ⟨rfl, h2, o2⟩
  have hz2 := h2.blk.lt
  have H2 := Lib.hid h2
  have HO2 := Lib.hid o2
  clear t h2 o2 hNd
  go_wp2_with (fail)
  obtain ⟨g, hg1⟩ : ∃ g, w1.heap.size + 1 = g := ⟨_, rfl⟩
  obtain ⟨bm, hbm⟩ : ∃ bm, w1.heap.size = bm := ⟨_, rfl⟩
  obtain ⟨xb, hxb⟩ : ∃ xb, w2.heap.size = xb := ⟨_, rfl⟩
  have hX : HX w1 (w2.alloc (.cells #[.pointer (some ⟨g, 0, none⟩)] 24)) g bm N [] xb := by
    have o3 : Only [] w2 (w2.alloc (.cells #[.pointer (some ⟨g, 0, none⟩)] 24)) := (Only.refl _ _).alloc _
    have hb := Blk.new w2 24 #[.pointer (some ⟨g, 0, none⟩)]
    have h2 := H2.out
    rw [hg1] at h2
    have hnb : NB w1.heap.size w2 g bm N 50 [] := by rw [← hbm]; exact h2
    rw [hxb] at hb
    refine ⟨hnb.keep o3, hb, fun hm => ?_, HO2.out.trans o3 (by simp), VK.nil _⟩
    have := hnb.below xb hm
    omega
  rw [hg1, hxb]
  have HXX := Lib.hid hX
  clear hX H2 HO2 hz2 hg1 hbm
  generalize w2.alloc (.cells #[.pointer (some ⟨g, 0, none⟩)] 24) = w3 at *
  clear hxb
  go_loopw [7] (fun u wr => ∃ (i : Nat) (Ls : List (Pr × Lane)), u = .int .i64 i ∧ i ≤ L.length ∧ Ls.length ≤ i ∧ total Ls ≤ i ∧ HX w1 wr g bm N Ls xb) (fun u _ => L.length - (intOf u).toNat)
  case atStart => exact ⟨0, [], rfl, Nat.zero_le _, Nat.le_refl _, Nat.le_refl _, HXX.out⟩
  case round =>
    clear HXX
    obtain ⟨i, Ls, rfl, hi, hls, htt, hX⟩ := hrel
    have HXX := Lib.hid hX
    have HOW := Lib.hid (HO1.out.trans hX.o (by simp))
    by_cases hlt : i < L.length
    · obtain ⟨⟨⟨hd0, hd1⟩, ha, hb, hv⟩, p, o, rfl, pb, c0, c1', c2, c3⟩ := (HL.out.only HOW.out) i L[i] (List.getElem?_eq_getElem hlt)
      generalize L[i] = q at hd0 hd1 ha hb hv c0 c1' c2 c3
      obtain ⟨d, a, b, v⟩ := q
      dsimp only at hd0 hd1 ha hb hv c0 c1' c2 c3
      obtain ⟨x0, xl⟩ := hX.x.facts1
      have iz0 : (0 : Int) ≤ (i : Int) := by omega
      have iz1 : (i : Int) < (L.length : Int) := by omega
      clear hX hv
      go_wp2_with (fail)
      go_still_tail 16, (by kernel_rfl)
      go_wp2_with (fail)
      refine (send_hx (HXX.out.keep ((Only.refl [] wr).drew)) v ha hb (by omega)).mono ?_
      rintro e w5 ⟨rfl, Ls', h5, l5, t5⟩
      have HX5 := Lib.hid h5
      clear h5 c0 c1' c2 c3 pb
      go_wp2_with (fail)
      go_roundw
      case rel => exact ⟨i + 1, Ls', by go_num, by omega, by omega, by omega, HX5.out⟩
      case measure => simp [intOf]; omega
    · have iz1 : ¬ (i : Int) < (L.length : Int) := by omega
      clear hX hlt
      go_wp2_with (fail)
      refine wp_loop_ghost_k (fun n a W => a.tmps.size = 91 ∧ a.tmps[4]? = some (.pointer (some ⟨rb, 0, none⟩)) ∧ a.tmps[5]? = some (.pointer (some ⟨xb, 0, none⟩)) ∧ ∃ (Ls : List (Pr × Lane)) (Ds : List Nat), a.defers = Ds.map (fun D => ({ target := .collected D, args := #[] } : Deferred)) ∧ Ds.Nodup ∧ (∀ D ∈ Ds, W.heap[D]? = some (.deferred (some [])) ∧ w1.heap.size ≤ D ∧ D ∉ g :: netS bm Ls) ∧ HX w1 W g bm N Ls xb ∧ total Ls = n ∧ n ≤ 200 ∧ Ls.length ≤ 200) (total Ls) ⟨rfl, rfl, rfl, Ls, [], rfl, List.nodup_nil, by simp, HXX.out, rfl, by omega, by omega⟩ ?_
      clear HXX HOW
      intro m a W hI J K hJ hK
      obtain ⟨h91, h4, h5, Ls, Ds, hdf, hnd, hDs, hX, htm, hm2, hls2⟩ := hI
      obtain ⟨f, rfl⟩ := frame91 h91 h4 h5 hdf
      clear h91 h4 h5 hdf
      have HJ := Lib.hid hJ
      have HK := Lib.hid hK
      have HDS := Lib.hid hDs
      have HND := Lib.hid hnd
      have HXX := Lib.hid hX
      have HTM := Lib.hid htm
      obtain ⟨x0, xl⟩ := hX.x.facts1
      clear hJ hK hDs hnd hX htm
      go_wp2_with (fail)
      refine (len_net HXX.out.nb (by have := HTM.out; omega)).mono ?_
      rw [HTM.out]
      rintro e w5 ⟨rfl, o5⟩
      have HX5 := Lib.hid (HXX.out.keep o5)
      have HD5 := Lib.hid (show ∀ D ∈ Ds, w5.heap[D]? = some (.deferred (some [])) ∧ w1.heap.size ≤ D ∧ D ∉ g :: netS bm Ls from fun D hD => ⟨(o5.block D (Array.getElem?_eq_some_iff.1 (HDS.out D hD).1).1 (by simp)).trans (HDS.out D hD).1, (HDS.out D hD).2⟩)
      clear o5 HXX HDS x0 xl
      by_cases hm0 : m = 0
      · have hz : decide ((0 : Int) < (m : Int)) = false := by simp; omega
        have hz2 : decide (0 < m) = false := by simp; omega
        have hRB := HX5.out.o.blk HB1.out (by simp)
        obtain ⟨r0, rl⟩ := hRB.facts1
        have rf := hRB.frozen 0
        have HRB := Lib.hid hRB
        clear hRB hm0
        go_wp2_with (fail)
        have hrl : rb < w1.heap.size := HB1.out.lt
        have hO5 := HO1.out.trans HX5.out.o (by simp)
        have hOS := hO5.setCell (p := ⟨rb, 0, none⟩) (.inr hwrb) (.bool true)
        refine leaves_all (B := w1.heap.size) Ds _ HND.out (fun D hD => ?_) (fun W' hk => ?_)
        · have h := HD5.out D hD
          exact ⟨((only_setCell w5 ⟨rb, 0, none⟩ (.bool true)).block D (Array.getElem?_eq_some_iff.1 h.1).1 (by simp; omega)).trans h.1, h.2.1⟩
        · obtain ⟨e0, _⟩ := (hk.blk (HRB.out.set_ 0 (.bool true))).facts1
          exact ⟨.bool true, by simp [results, Try.results6, go_sem, e0], rfl, hOS.keepC hk HO1.out.size⟩
      · have hz : decide ((0 : Int) < (m : Int)) = true := by simp; omega
        have hz2 : decide (0 < m) = true := by simp; omega
        have HM0 := Lib.hid hm0
        clear hm0
        obtain ⟨x0, xl⟩ := HX5.out.x.facts1
        go_wp2_with (fail)
        refine (copy_net HX5.out.nb (by omega)).mono ?_
        rintro e w6 ⟨cg, cm, Cs, rfl, hC, hcp, o6⟩
        have hlane : ∀ q, laneX Cs q = laneX Ls q := fun q => hcp.at_ q rfl
        have hct : total Cs = m := by have := hcp.tot; rw [HTM.out] at this; simpa [total] using this
        have HX6 := Lib.hid (HX5.out.keep o6)
        have HD6 := Lib.hid (show ∀ D ∈ Ds, w6.heap[D]? = some (.deferred (some [])) ∧ w1.heap.size ≤ D ∧ D ∉ g :: netS bm Ls from fun D hD => ⟨(o6.block D (Array.getElem?_eq_some_iff.1 (HD5.out D hD).1).1 (by simp)).trans (HD5.out D hD).1, (HD5.out D hD).2⟩)
        have HC6 := Lib.hid hC
        have HCA := Lib.hid (show ∀ x ∈ cg :: netS cm Cs, w5.heap.size ≤ x from hC.above)
        have HBL := Lib.hid (show ∀ x ∈ g :: netS bm Ls, x < w5.heap.size from HX5.out.nb.below)
        have HLANE := Lib.hid hlane
        have HCT := Lib.hid hct
        have hs6 := o6.size
        have h15 : w1.heap.size ≤ w5.heap.size := HX5.out.o.size
        have hxb6 : xb < w5.heap.size := xl
        have HDL := Lib.hid (show ∀ D ∈ Ds, D < w5.heap.size from fun D hD => (Array.getElem?_eq_some_iff.1 (HD5.out D hD).1).1)
        clear hcp o6 hC hlane hct x0 xl HX5 HD5
        go_wp2_with (fail)
        have o7 : Only [] w6 (w6.alloc (.cells #[.int .i64 0] 3)) := (Only.refl _ _).alloc _
        have HX7 := Lib.hid (HX6.out.keep o7)
        have HC7 := Lib.hid (HC6.out.keep o7)
        have HK7 := Lib.hid (Blk.new w6 3 #[.int .i64 0])
        have HO7 := Lib.hid o7
        obtain ⟨kb, hkb⟩ : ∃ kb, w6.heap.size = kb := ⟨_, rfl⟩
        have hkb5 : w5.heap.size ≤ kb := by omega
        rw [hkb] at HK7 ⊢
        have HD7 := Lib.hid (show ∀ D ∈ Ds, (w6.alloc (.cells #[.int .i64 0] 3)).heap[D]? = some (.deferred (some [])) ∧ w1.heap.size ≤ D ∧ D ∉ g :: netS bm Ls from fun D hD => ⟨(o7.block D (Array.getElem?_eq_some_iff.1 (HD6.out D hD).1).1 (by simp)).trans (HD6.out D hD).1, (HD6.out D hD).2⟩)
        have HKB := Lib.hid (show ∀ x ∈ cg :: netS cm Cs, x < kb from fun x hx => by have := HC6.out.below x hx; omega)
        clear o7 HX6 HC6 HD6 hkb HO7
        generalize w6.alloc (.cells #[.int .i64 0] 3) = w7 at *
        refine (nheads_any _ _ rfl w7).mono ?_
        rintro e w8 ⟨rfl, rfl⟩
        go_wp2_with (fail)
        have ox : Only [] w7 (w7.alloc (.cells #[.pointer (some ⟨cg, 0, none⟩)] 24)) := (Only.refl _ _).alloc _
        have hbx := Blk.new w7 24 #[.pointer (some ⟨cg, 0, none⟩)]
        have hsq := nheads_seqs (HC7.out.keep ox) hbx
        have HX8 := Lib.hid (HX7.out.keep ox)
        have HC8 := Lib.hid (HC7.out.keep ox)
        have HK8 := Lib.hid (ox.blk HK7.out (by simp))
        have HD8 := Lib.hid (show ∀ D ∈ Ds, (w7.alloc (.cells #[.pointer (some ⟨cg, 0, none⟩)] 24)).heap[D]? = some (.deferred (some [])) ∧ w1.heap.size ≤ D ∧ D ∉ g :: netS bm Ls from fun D hD => ⟨(ox.block D (Array.getElem?_eq_some_iff.1 (HD7.out D hD).1).1 (by simp)).trans (HD7.out D hD).1, (HD7.out D hD).2⟩)
        obtain ⟨cb, hcb⟩ : ∃ cb, w7.heap.size = cb := ⟨_, rfl⟩
        rw [hcb] at hsq ⊢
        clear hbx ox HX7 HC7 HK7 HD7 hcb
        generalize w7.alloc (.cells #[.pointer (some ⟨cg, 0, none⟩)] 24) = w8 at *
        have hkb8 : kb < w8.heap.size := HK8.out.lt
        have h18 : w1.heap.size ≤ w8.heap.size := HX8.out.o.size
        rw [hdP_congr HLANE.out] at hsq
        obtain ⟨M, hM⟩ : ∃ M, hdP Ls (prs N) = M := ⟨_, rfl⟩
        obtain ⟨Q, hQ⟩ : ∃ Q, hdQ Ls (prs N) = Q := ⟨_, rfl⟩
        have hMQ : M.map (·.1) = Q := by rw [← hM, ← hQ]; exact hdP_pairs _ _
        have hnq : Q.Nodup := by rw [← hQ]; exact hdQ_nodup hN.2 _
        have hqne : ∀ p ∈ Q, laneX Ls p ≠ [] := by rw [← hQ]; exact fun p hp => hdQ_ne hp
        have hq0 : 0 < Q.length := by rw [← hQ]; exact hdQ_pos HX8.out.nb.nd HX8.out.vk (by have := HTM.out; have := HM0.out; omega)
        have hval : ∀ e ∈ M, e.2 = hdI (laneX Ls e.1) ∧ anyI (laneX Ls e.1) = true := by rw [← hM]; exact fun e he => hdP_val he
        have hin : ∀ e ∈ M, I64 e.1.1 ∧ I64 e.1.2 := fun e he => by
          have : e.1 ∈ Q := by rw [← hMQ]; exact List.mem_map.2 ⟨e, he, rfl⟩
          rw [← hQ] at this
          exact prs_I64 hN.2 (List.mem_filter.1 this).1
        rw [hM] at hsq
        have HQ64 := Lib.hid (show Q.length ≤ 64 from by rw [← hQ]; exact Nat.le_trans (List.length_filter_le _ _) (prs_length hN.2))
        have HMQ := Lib.hid hMQ
        have HNQ := Lib.hid hnq
        have HQN := Lib.hid hqne
        have HVAL := Lib.hid hval
        have HIN := Lib.hid hin
        have HND8 := Lib.hid HX8.out.nb.nd
        have hlq : M.length = Q.length := by rw [← hMQ]; simp
        have HLQ := Lib.hid hlq
        clear hM hQ hMQ hnq hqne hval hin hlq
        have hoff : kb ∉ g :: netS bm Ls := fun hm => by have := HBL.out kb hm; omega
        refine' wp_rangeFunc_seqsT (gf := 27) (lb := #[.pointer (some ⟨cb, 0, none⟩)]) (vs := valsN M) (prot := []) rfl (enters Try.func27 (by kernel_rfl) rfl)
          hsq (by intro v hv; simp only [valsN, List.mem_map] at hv; obtain ⟨_, _, rfl⟩ := hv; rfl) (kb :: netS bm Ls) (fun b hb => ?hS0) (by simp)
          (fun k S V => S = kb :: netS bm Ls ∧ HX w1 V g bm N (takeAll Ls (Q.take k)) xb ∧ Only (kb :: netS bm Ls) w8 V ∧ Blk V kb 3 #[.int .i64 (k : Int)])
          (fun _ _ _ => False) ?hI (fun _ _ _ _ h _ => h) ?h0
          _ (fun k V => V.alloc (.cells #[.int .i64 (gI M k).1.1, .int .i64 (gI M k).1.2] 50)) (fun k V => (Only.refl [] V).alloc _) ?assign ?body ?done (fun _ _ _ _ _ _ h _ => h.elim)
        case hS0 =>
          rcases List.mem_cons.1 hb with rfl | hb
          · exact hkb8
          · exact HX8.out.nb.below b (List.mem_cons_of_mem _ hb)
        case assign =>
          intro l0 k v X K hv hKK
          obtain rfl : #[.agg #[.int .i64 (gI M k).1.1, .int .i64 (gI M k).1.2], .int .i64 (gI M k).2] = v := by
            obtain ⟨e, he, rfl⟩ := valsN_of hv
            have e2 : gI M k = e := by unfold gI; rw [he]; rfl
            rw [e2]
          clear hv
          gi_wp2
          exact hKK
        case hI =>
          rintro k S V1 V2 ⟨rfl, h1, h2, h3⟩ hk
          refine ⟨rfl, h1.keepT hk (fun x hx => ?_) (by omega) h18, h2.keepT hk (Nat.le_refl _), hk.blk h3 (.inr (by simp))⟩
          rcases List.mem_cons.1 hx with rfl | hx
          · left; have := HBL.out x (by simp); omega
          · right; exact List.mem_cons_of_mem _ (takeAll_bs _ _ x hx)
        case h0 => exact ⟨rfl, HX8.out, Only.refl _ _, HK8.out⟩
        case body =>
          intro l0 k vv S V X hv hI hk
          obtain ⟨rfl, hXk, hO, hN9⟩ := hI
          obtain ⟨e, he, rfl⟩ := valsN_of hv
          have e2 : gI M k = e := by unfold gI; rw [he]; rfl
          have hem : e ∈ M := List.mem_of_getElem? he
          have hQk : Q[k]? = some e.1 := by rw [← HMQ.out, List.getElem?_map, he]; rfl
          have hnot : e.1 ∉ Q.take k := fun hm => by
            obtain ⟨j, hj, hje⟩ := List.mem_iff_getElem.1 hm
            have hjk : j < k := by simp at hj; omega
            have hkl : k < Q.length := (List.getElem?_eq_some_iff.1 hQk).1
            have h1 : Q[j]? = some e.1 := by
              rw [List.getElem_take] at hje
              rw [List.getElem?_eq_getElem (by omega), hje]
            have := (List.getElem?_inj (by omega) HNQ.out).1 (h1.trans hQk.symm)
            omega
          have hlane := takeAll_lane (Q.take k) Ls HND8.out hnot
          have htk : takeAll Ls (Q.take (k + 1)) = tailX (takeAll Ls (Q.take k)) e.1 := by
            rw [List.take_add_one, hQk]; exact takeAll_snoc _ _ _
          have hPK := hk.blk (Blk.new V 50 #[.int .i64 (gI M k).1.1, .int .i64 (gI M k).1.2])
          obtain ⟨pb, hpb⟩ : ∃ pb, V.heap.size = pb := ⟨_, rfl⟩
          rw [e2] at hPK ⊢
          rw [hpb] at hPK ⊢
          obtain ⟨hv1, hv2⟩ := HVAL.out e hem
          have h64 := HIN.out e hem
          rw [← hlane] at hv1 hv2
          have HV1 := Lib.hid hv1
          have HV2 := Lib.hid hv2
          have HTK := Lib.hid htk
          have HNK := Lib.hid hN9
          have HXK := Lib.hid hXk
          have HOK := Lib.hid hO
          obtain ⟨x0, xl⟩ := hXk.x.facts1
          obtain ⟨p0, p1, pl⟩ := hPK.facts2
          have hk64 : (k : Int) < 64 := by have := (List.getElem?_eq_some_iff.1 he).1; have := HLQ.out; have := HQ64.out; omega
          have hk0 : (0 : Int) ≤ (k : Int) := by omega
          clear hv he e2 hem hQk hnot hlane htk hPK hpb hv1 hv2 hN9 hXk hO hk
          gi_wp2_with (fail)
          refine ⟨trivial, callsIn_round ((take_hx HXK.out h64.1 h64.2).mono ?_)⟩
          rintro e9 X2 ⟨rfl, hX2, oX2⟩
          have := HV1.out
          rw [← HV1.out, HV2.out]
          have oS : Only (kb :: netS bm Ls) X X2 := oX2.mono (fun x hx => .inl (List.mem_cons_of_mem _ (takeAll_bs _ _ x hx)))
          have hkX : kb ∉ netS bm (takeAll Ls (Q.take k)) := fun hm => hoff (List.mem_cons_of_mem _ (takeAll_bs _ _ kb hm))
          have hN2 := oX2.blk HNK.out hkX
          obtain ⟨n0, nl⟩ := hN2.facts1
          have nf := hN2.frozen 0
          have HN2 := Lib.hid hN2
          have HX2 := Lib.hid hX2
          have HOS := Lib.hid oS
          clear x0 xl p0 p1 pl this hX2 oX2 oS hN2
          gi_wp2_with (fail)
          have oC := only_setCell X2 ⟨kb, 0, none⟩ (.int .i64 ((k : Int) + 1))
          have oT := HOS.out.trans oC (fun x hx => .inl (by simp at hx; simp [hx]))
          refine ⟨⟨kb :: netS bm Ls, ⟨rfl, ?_, HOK.out.trans oT (fun _ h => .inl h), by have h := HN2.out.set_ 0 (.int .i64 ((k : Int) + 1)); simpa using h⟩, fun b hb => .inl hb⟩, oT⟩
          rw [HTK.out]
          refine HX2.out.only oC (fun x hx hm => ?_) (by simp; omega) (by simp; omega)
          simp at hm
          subst hm
          rcases List.mem_cons.1 hx with h | h
          · exact hoff (by simp [h])
          · exact hkX (tailX_bs _ h)
        case done =>
          intro D S X hD hDS hI hKd
          obtain ⟨rfl, hX, hO, hN9⟩ := hI
          have e1 : (valsN M).length = Q.length := by rw [← HLQ.out]; simp [valsN]
          rw [e1, List.take_length] at hX
          rw [e1] at hN9
          have hDX : D < X.heap.size := (Array.getElem?_eq_some_iff.1 hKd).1
          have htt := takeAll_total Q Ls HND8.out HNQ.out HQN.out
          rw [HTM.out] at htt
          obtain ⟨tK, htK⟩ : ∃ tK, total (takeAll Ls Q) = tK := ⟨_, rfl⟩
          rw [htK] at htt
          have hlk := takeAll_length Q Ls
          have hCX : NB w5.heap.size X cg cm N 50 Cs := HC8.out.only hO (fun x hx hm => by
            rcases List.mem_cons.1 hm with rfl | hm
            · have := HKB.out x hx; omega
            · have := HCA.out x hx
              have := HBL.out x (List.mem_cons_of_mem _ hm)
              omega)
          have HX9 := Lib.hid hX
          have HC9 := Lib.hid hCX
          have HN9 := Lib.hid hN9
          have HO9 := Lib.hid hO
          have HKD := Lib.hid hKd
          have HTK := Lib.hid htK
          have HQ0 := Lib.hid hq0
          have HLK := Lib.hid hlk
          have HTT := Lib.hid htt
          have hq00 := HQ0.out
          have hke : decide ((Q.length : Int) = 0) = false := decide_eq_false (by omega)
          have hke2 : ((Q.length : Int) == 0) = false := by rw [beq_eq_false_iff_ne]; omega
          have HKE := Lib.hid (And.intro hke hke2)
          have HNE := Lib.hid (show ((tK : Int) != (m : Int) - (Q.length : Int)) = false from by rw [bne_eq_false_iff_eq]; omega)
          have HEW := Lib.hid (show IntKind.i64.wrap ((m : Int) - (Q.length : Int)) = (m : Int) - (Q.length : Int) from by rw [IntKind.wrap_i64]; have := HQ64.out; omega)
          have HWR := Lib.hid (show (0 : Int) ≤ (m : Int) ∧ (m : Int) ≤ 200 ∧ (0 : Int) ≤ (Q.length : Int) ∧ (Q.length : Int) ≤ 64 from by have := HQ64.out; omega)
          clear hX hCX hN9 hO hKd htt htK hq0 hlk hke hke2 e1 hq00 hsq hoff
          go_wp2_with (fail)
          refine (wpIn_wide (n := 9)).1 ?_
          refine wpIn_region_relR 10 (Only []) (fr := ?frq) (tl := ?tlq) (fun iq v wv => match iq with
            | 0 => v = .int .i64 (Q.length : Nat)
            | 1 => v = .bool false
            | 2 => v = .bool false
            | 3 => v = .pointer (some ⟨g, 0, none⟩)
            | 4 => v = .int .i64 (tK : Nat)
            | 5 => v = .pointer (some ⟨cg, 0, none⟩)
            | 6 => v = .int .i64 (m : Nat)
            | 7 => v = .int .i64 (Q.length : Nat)
            | 8 => v = .int .i64 ((m : Int) - (Q.length : Int))
            | 9 => v = .bool false
            | _ => True) (.inl rfl) (by kernel_rfl) (by kernel_rfl) (by kernel_rfl) (by kernel_rfl) (by kernel_rfl) (by kernel_rfl) (by decide) ?htlq ?hfrq (Only.refl _ _) (fun _ _ _ h k => h.trans k (fun _ hx => .inl hx)) ?stabq ?stepsq ?doneq
          case htlq => simp only [List.drop_succ_cons, List.drop_zero]; rfl
          case hfrq => intro vals; simp only [putAll, dstAt, Act.put, List.getElem?_toArray, List.getElem?_cons_zero, List.getElem?_cons_succ, Option.bind_some, List.setIfInBounds_toArray, List.set_cons_zero, List.set_cons_succ]; rfl
          case stabq =>
            intro i v wa wb h
            try dsimp only
            split <;> first | exact id
          case stepsq =>
            refine ⟨?_, ?_, ?_, ?_, ?_, ?_, ?_, ?_, ?_, ?_, trivial⟩
            · intro vals wr hR hp K hK
              dsimp only at hK ⊢
              clear hp
              unfold RunsOp
              have tg := hR.blk (Blk.drew HN9.out) (by simp)
              obtain ⟨k0, kl⟩ := tg.facts1
              clear tg
              go_simp
              exact hK.out _ _ ⟨_, rfl, Only.refl _ _, rfl⟩
            · intro vals wr hR hp K hK
              dsimp only at hK ⊢
              obtain ⟨p0, -⟩ := hp
              replace p0 := p0 rfl
              dsimp only at p0
              rw [p0] at hK ⊢
              clear p0
              unfold RunsOp
              obtain ⟨ke1, ke2⟩ := HKE.out
              go_simp
              exact hK.out _ _ ⟨_, rfl, Only.refl _ _, rfl⟩
            · intro vals wr hR hp K hK
              dsimp only at hK ⊢
              obtain ⟨p1, -⟩ := hp
              replace p1 := p1 rfl
              dsimp only at p1
              rw [p1] at hK ⊢
              clear p1
              unfold RunsOp
              go_simp
              exact hK.out _ _ ⟨_, rfl, Only.refl _ _, rfl⟩
            · intro vals wr hR hp K hK
              dsimp only at hK ⊢
              obtain ⟨p2, -⟩ := hp
              replace p2 := p2 rfl
              dsimp only at p2
              rw [p2] at hK ⊢
              clear p2
              unfold RunsOp
              have tg := hR.blk (Blk.drew HX9.out.x) (by simp)
              obtain ⟨k0, kl⟩ := tg.facts1
              clear tg
              go_simp
              exact hK.out _ _ ⟨_, rfl, Only.refl _ _, rfl⟩
            · intro vals wr hR hp K hK
              dsimp only at hK ⊢
              obtain ⟨p3, p2, -, -⟩ := hp
              replace p3 := p3 rfl
              replace p2 := p2 rfl
              dsimp only at p3 p2
              rw [p3, p2] at hK ⊢
              clear p3 p2
              unfold RunsOp
              go_simp
              refine (len_net (HX9.out.nb.keep ((Only.refl [] X).drew.trans hR (by simp))) (by have := HTK.out; have := HTT.out; omega)).mono ?_
              rw [HTK.out]
              rintro e w2 ⟨rfl, o2⟩
              exact hK.out _ _ ⟨_, rfl, o2, rfl⟩
            · intro vals wr hR hp K hK
              dsimp only at hK ⊢
              obtain ⟨p2, -⟩ := hp
              replace p2 := p2 rfl
              dsimp only at p2
              rw [p2] at hK ⊢
              clear p2
              unfold RunsOp
              go_simp
              exact hK.out _ _ ⟨_, rfl, Only.refl _ _, rfl⟩
            · intro vals wr hR hp K hK
              dsimp only at hK ⊢
              obtain ⟨p5, -, p2, -⟩ := hp
              replace p5 := p5 rfl
              replace p2 := p2 rfl
              dsimp only at p5 p2
              rw [p5, p2] at hK ⊢
              clear p5 p2
              unfold RunsOp
              go_simp
              refine (len_net (HC9.out.keep ((Only.refl [] X).drew.trans hR (by simp))) (by have := HCT.out; omega)).mono ?_
              rw [HCT.out]
              rintro e w2 ⟨rfl, o2⟩
              exact hK.out _ _ ⟨_, rfl, o2, rfl⟩
            · intro vals wr hR hp K hK
              dsimp only at hK ⊢
              obtain ⟨p2, -⟩ := hp
              replace p2 := p2 rfl
              dsimp only at p2
              rw [p2] at hK ⊢
              clear p2
              unfold RunsOp
              have tg := hR.blk (Blk.drew HN9.out) (by simp)
              obtain ⟨k0, kl⟩ := tg.facts1
              clear tg
              go_simp
              exact hK.out _ _ ⟨_, rfl, Only.refl _ _, rfl⟩
            · intro vals wr hR hp K hK
              dsimp only at hK ⊢
              obtain ⟨p6, p7, p2, -⟩ := hp
              replace p6 := p6 rfl
              replace p7 := p7 rfl
              replace p2 := p2 rfl
              dsimp only at p6 p7 p2
              rw [p6, p7, p2] at hK ⊢
              clear p6 p7 p2
              unfold RunsOp
              have ew := HEW.out
              go_simp
              exact hK.out _ _ ⟨_, rfl, Only.refl _ _, rfl⟩
            · intro vals wr hR hp K hK
              dsimp only at hK ⊢
              obtain ⟨p4, p8, p2, -⟩ := hp
              replace p4 := p4 rfl
              replace p8 := p8 rfl
              replace p2 := p2 rfl
              dsimp only at p4 p8 p2
              rw [p4, p8, p2] at hK ⊢
              clear p4 p8 p2
              unfold RunsOp
              have ne1 := HNE.out
              go_simp
              exact hK.out _ _ ⟨_, rfl, Only.refl _ _, rfl⟩
          case doneq =>
            intro vals wd hR hF
            have f0 : vals 0 = .int .i64 (Q.length : Nat) := hF 0 (by decide)
            have f1 : vals 1 = .bool false := hF 1 (by decide)
            have f2 : vals 2 = .bool false := hF 2 (by decide)
            have f3 : vals 3 = .pointer (some ⟨g, 0, none⟩) := hF 3 (by decide)
            have f4 : (vals 4) = .int .i64 (tK : Nat) := hF 4 (by decide)
            have f5 : vals 5 = .pointer (some ⟨cg, 0, none⟩) := hF 5 (by decide)
            have f6 : (vals 6) = .int .i64 (m : Nat) := hF 6 (by decide)
            have f7 : vals 7 = .int .i64 (Q.length : Nat) := hF 7 (by decide)
            have f8 : vals 8 = .int .i64 ((m : Int) - (Q.length : Int)) := hF 8 (by decide)
            have f9 : vals 9 = .bool false := hF 9 (by decide)
            rw [f0, f1, f2, f3, f5, f7, f8, f9]
            clear f0 f1 f2 f3 f5 f7 f8 f9
            rw [f4, f6]
            clear f4 f6
            have oXd : Only [] X wd := ((Only.refl [] X).drew).trans hR (by simp)
            have HXd := Lib.hid (HX9.out.keep oXd)
            have HOd := Lib.hid (HO9.out.trans oXd (by simp))
            have HDd := Lib.hid ((oXd.block D hDX (by simp)).trans HKD.out)
            have hwd := oXd.size
            clear hR hF oXd
            gi_wp2_with (fail)
            go_wp2_with (fail)
            refine HK.out _ _ (Handed.intro tK (by have := HTT.out; have := HQ0.out; omega) (HJ.out _ _ _ ?_))
            refine ⟨rfl, rfl, rfl, takeAll Ls Q, D :: Ds, rfl, List.nodup_cons.2 ⟨fun hm => ?_, HND.out⟩, fun E hE => ?_, HXd.out, HTK.out, by have := HTT.out; omega, by have := HLK.out; omega⟩
            · have := HDL.out D hm; omega
            · rcases List.mem_cons.1 hE with rfl | hE
              · refine ⟨HDd.out, by omega, fun hm => ?_⟩
                rcases List.mem_cons.1 hm with hm | hm
                · have := HBL.out E (by simp [hm]); omega
                · have := HBL.out E (List.mem_cons_of_mem _ (takeAll_bs _ _ E hm)); omega
              · obtain ⟨h1, h2, h3⟩ := HD8.out E hE
                have hlt := HDL.out E hE
                refine ⟨(HOd.out.block E (Array.getElem?_eq_some_iff.1 h1).1 (fun hm => ?_)).trans h1, h2, fun hm => h3 ?_⟩
                · rcases List.mem_cons.1 hm with hm | hm
                  · omega
                  · exact h3 (List.mem_cons_of_mem _ hm)
                · rcases List.mem_cons.1 hm with hm | hm
                  · simp [hm]
                  · exact List.mem_cons_of_mem _ (takeAll_bs _ _ E hm)
theorem linkheads_any {A : Option Addr} {cap : Nat} {L : List Ac} {n : Int} {w : World} (hL : Acs w A L) (hlen : L.length ≤ 9223372036854775807) (hn : 0 ≤ n ∧ n ≤ 255) :
    Calls Try.prog 6 #[.int .u8 n, .slice A L.length cap] w fun e w' => e = .returned (.bool true) ∧ Only [] w w' := by
  by_cases h : 200 < L.length
  · exact linkheads_many h hlen
  · exact linkheads_few hL (by omega) hn
end Go.Proofs.Ytlhmhpopppfpkaa
