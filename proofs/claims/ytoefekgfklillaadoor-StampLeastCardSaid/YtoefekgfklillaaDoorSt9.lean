/- stamp.Least over slices.Values. -/
import Derived.Test.YtoefekgfklillaaDoorSt5
import Derived.Test.YtoefekgfklillaaDoorVals
import Derived.Test.YtoefekgfklillaaDoorRangeA
namespace Go.Proofs.YtoefekgfklillaaDoor
open Go.RowKit Go.Kx
attribute [local go_sem] Oper.semAt_some
set_option maxRecDepth 100000

theorem eq_nilfunc (c : Nat) (W : World) : (binOp .eql 51 (.func (.func 39) #[] #[.pointer (some ⟨c, 0, none⟩)]) Value.nilFunc).run Tryd.prog W = .ok (.bool false) W := by
  first | rfl | (simp [go_sem]; done) | (simp [go_sem, Value.nilFunc]; done)
set_option maxHeartbeats 2000000 in
theorem least_any {A : Option Addr} {cap c : Nat} {L : List St} {w : World} (hLen : L.length ≤ 1000) (hA : ∀ p, A = some p → p.block < w.heap.size) (h : Stamps w A L) (hc : Blk w c 48 #[.slice A L.length cap]) :
    Calls Tryd.prog 22 #[.func (.func 39) #[] #[.pointer (some ⟨c, 0, none⟩)]] w fun e w' => e = .returned (.agg #[.int .i64 (minS L).1.1, .int .i64 (minS L).1.2, .int .i64 (minS L).2]) ∧ Only [] w w' := by
  have H := Lib.hid h
  have HC := Lib.hid hc
  clear h hc
  have O0 := Lib.hid (Only.refl [] w)
  have heq := eq_nilfunc c
  refine calls_marks Tryd.func22 rfl ?_
  simp only [Tryd.ntmps22, List.size_toArray, List.length_cons, List.length_nil, Nat.reduceAdd, Nat.reduceSub, Array.replicate_succ, Array.replicate_zero, List.push_toArray, List.append_toArray, List.nil_append, List.cons_append]
  go_wp2_with (fail)
  refine (stnever_any _).mono ?_
  rintro e w1 ⟨rfl, o⟩
  have B0n : Blk (w.alloc (.cells #[.int .i64 0, .int .i64 0, .int .i64 0] 27)) (w.heap.size) 27 #[.int .i64 0, .int .i64 0, .int .i64 0] := (by have h := Blk.new w 27 #[.int .i64 0, .int .i64 0, .int .i64 0]; simpa using h)
  have B0x := o.blk (t := 27) (cs := #[.int .i64 0, .int .i64 0, .int .i64 0]) (g := w.heap.size) (by first | exact B0n | exact Blk.drewN B0n _ | exact Blk.drew B0n) (by simp)
  have O1x : Only [] w w1 := (by first | exact Only.trans (O0.out.alloc _) o (by simp) | exact Only.trans (Only.drewN (O0.out.alloc _) _) o (by simp) | exact Only.trans (Only.drew (O0.out.alloc _)) o (by simp))
  obtain ⟨B0c0, B0c1, B0c2, B0l⟩ := B0x.facts3
  clear B0n O0 o
  have B0 := Lib.hid B0x; have O1 := Lib.hid O1x
  clear B0x O1x
  have B0y : Blk (w1.alloc (.cells #[.int .i64 1, .int .i64 0, .int .i64 0] 27)) (w.heap.size) 27 #[.int .i64 0, .int .i64 0, .int .i64 0] := (B0.out.alloc _)
  clear B0
  have B0 := Lib.hid B0y
  clear B0y
  have B1 := Lib.hid ((by have h := Blk.new w1 27 #[.int .i64 1, .int .i64 0, .int .i64 0]; simpa using h : Blk (w1.alloc (.cells #[.int .i64 1, .int .i64 0, .int .i64 0] 27)) (w1.heap.size) 27 #[.int .i64 1, .int .i64 0, .int .i64 0]) : Blk (w1.alloc (.cells #[.int .i64 1, .int .i64 0, .int .i64 0] 27)) (w1.heap.size) 27 #[.int .i64 1, .int .i64 0, .int .i64 0])
  have O2 := Lib.hid ((O1.out.alloc _) : Only [] w (w1.alloc (.cells #[.int .i64 1, .int .i64 0, .int .i64 0] 27)))
  clear O1
  go_wp2_with (fail)
  generalize w1.alloc (.cells #[.int .i64 1, .int .i64 0, .int .i64 0] 27) = w2 at B0 B1 O2 ⊢
  have hl1 := B1.out.lt
  have hl0 := B0.out.lt
  have hlw := O2.out.size
  refine wp_rangeFunc_seqsA (gf := 39) (lb := #[.pointer (some ⟨c, 0, none⟩)]) (vs := vals27 L) (prot := A.toList.map (·.block)) rfl (enters Tryd.func39 (by kernel_rfl) rfl)
    (values_seqs (fun p e => by rw [e]; simp) hLen (H.out.only O2.out) (O2.out.blk HC.out (by simp)))
    (by intro v hv; simp [vals27] at hv; obtain ⟨_, _, _, _, rfl⟩ := hv; rfl) [w1.heap.size] (by simp; omega) ?hprot
    (fun k S W => Blk W w1.heap.size 27 #[.int .i64 (minS (L.take k)).1.1, .int .i64 (minS (L.take k)).1.2, .int .i64 (minS (L.take k)).2] ∧ Blk W w.heap.size 27 #[.int .i64 0, .int .i64 0, .int .i64 0] ∧ Only [] w W ∧ S = [w1.heap.size])
    (fun _ _ => False) ?hI (fun _ _ _ h _ => h) ?h0
    (fun k V => { tmps := #[.func (.func 39) #[] #[.pointer (some ⟨c, 0, none⟩)], undef, .pointer (some ⟨w.heap.size, 0, none⟩), .pointer (some ⟨w1.heap.size, 0, none⟩), .pointer (some ⟨V.heap.size, 0, none⟩), .agg #[.int .i64 1, .int .i64 0, .int .i64 0], .func (.func 39) #[] #[.pointer (some ⟨c, 0, none⟩)], .bool false, undef, .func (.func 39) #[] #[.pointer (some ⟨c, 0, none⟩)],
      .agg #[.int .i64 (L.getD k ((1, 0), 0)).1.1, .int .i64 (L.getD k ((1, 0), 0)).1.2, .int .i64 (L.getD k ((1, 0), 0)).2], undef, undef, undef, undef, undef], defers := [] })
    (fun k V => V.alloc (.cells #[.int .i64 (L.getD k ((1, 0), 0)).1.1, .int .i64 (L.getD k ((1, 0), 0)).1.2, .int .i64 (L.getD k ((1, 0), 0)).2] 27)) (fun k V => (Only.refl [] V).alloc _) ?assign ?body ?done (fun _ _ _ _ h _ => h.elim)
  case hprot => intro b hb; simp at hb; obtain ⟨p, hp, rfl⟩ := hb; have := hA p hp; simp; omega
  case hI =>
    rintro k S W1 W2 ⟨h1, h2, h3, h4⟩ hk
    exact ⟨hk.blk h1, hk.blk h2, h3.keepC hk (by omega), h4⟩
  case h0 => exact ⟨B1.out, B0.out, O2.out, rfl⟩
  case assign =>
    intro l k v W K hv hK
    obtain ⟨hk, rfl⟩ : k < L.length ∧ #[.agg #[.int .i64 (L.getD k ((1, 0), 0)).1.1, .int .i64 (L.getD k ((1, 0), 0)).1.2, .int .i64 (L.getD k ((1, 0), 0)).2]] = v := by
      by_cases hk : k < L.length
      · rw [vals27_at hk] at hv
        refine ⟨hk, ?_⟩
        rw [← Option.some.inj hv]
        simp [List.getD, hk]
      · rw [List.getElem?_eq_none (by simp [vals27]; omega)] at hv; cases hv
    clear hk hv
    gi_wp2
    exact hK
  case body =>
    rintro l k vv S V W hv ⟨hb1, hb0, hO, rfl⟩ hk
    have hkl : k < L.length := by
      rcases Nat.lt_or_ge k L.length with h | h
      · exact h
      · rw [List.getElem?_eq_none (by simp [vals27]; omega)] at hv; cases hv
    clear hv
    have hg : L.getD k ((1, 0), 0) = L[k] := by simp [List.getD, hkl]
    rw [hg] at hk ⊢
    have hs := (H.out k L[k] (List.getElem?_eq_getElem hkl)).1
    have hm := minS_ok (L := L.take k) (fun s hs => by
      obtain ⟨i, hi, e⟩ := List.getElem_of_mem (List.mem_of_mem_take hs)
      exact (H.out i s (by rw [List.getElem?_eq_getElem hi, e])).1)
    have hsn := minS_snoc (L.take k) L[k]
    rw [← List.take_succ_eq_append_getElem hkl] at hsn
    have hbv := hk.blk (Blk.new V 27 #[.int .i64 L[k].1.1, .int .i64 L[k].1.2, .int .i64 L[k].2])
    generalize L[k] = s at hs hsn hbv hg
    generalize minS (L.take k) = m at hb1 hm hsn
    obtain ⟨v0, v1, v2, vl⟩ := hbv.facts3
    obtain ⟨m0, m1, m2, ml⟩ := hb1.facts3
    have hle := less_iff s m
    have hne : ¬ w.heap.size = w1.heap.size := by omega
    have hle1 : w.heap.size ≤ w1.heap.size := by omega
    by_cases hc : stC s m < 0
    · rw [if_pos hc] at hsn
      have HS := Lib.hid hsn
      clear hsn
      gi_wp2_with (fail)
      refine ⟨trivial, CallsIn.inRound l (callsIn_wide.2 ((lessr s m hs hm rfl (y := true) (by rw [hle]; exact decide_eq_true hc) W).mono ?_))⟩
      rintro e w3 ⟨rfl, o3⟩
      obtain ⟨v0, v1, v2, vl⟩ := (o3.blk hbv (by simp)).facts3
      have hb3 := o3.blk hb1 (by simp)
      obtain ⟨m0, m1, m2, ml⟩ := hb3.facts3
      have f0 := hb3.frozen 0
      have f1 := hb3.frozen 1
      have f2 := hb3.frozen 2
      gi_wp2_with (fail)
      have hO3 : Only [] w w3 := hO.trans o3 (by simp)
      exact ⟨⟨_, ⟨by rw [HS.out]; exact ((hb3.set_ 0 _).set_ 1 _).set_ 2 _, (((o3.blk hb0 (by simp)).far hne _).far hne _).far hne _, ((hO3.setCell (.inr hle1) _).setCell (.inr hle1) _).setCell (.inr hle1) _, rfl⟩, fun b hb => .inl hb⟩,
        (((o3.mono (fun _ h => by simp at h)).setCell (.inl (by simp)) _).setCell (.inl (by simp)) _).setCell (.inl (by simp)) _⟩
    · rw [if_neg hc] at hsn
      have HD := Lib.hid (hle.trans (decide_eq_false hc))
      clear hc
      have HS := Lib.hid hsn
      clear hsn
      gi_wp2_with (fail)
      refine ⟨trivial, CallsIn.inRound l (callsIn_wide.2 ((lessr s m hs hm rfl (y := false) HD.out W).mono ?_))⟩
      rintro e w3 ⟨rfl, o3⟩
      gi_wp2_with (fail)
      exact ⟨⟨_, ⟨by rw [HS.out]; exact o3.blk hb1 (by simp), o3.blk hb0 (by simp), hO.trans o3 (by simp), rfl⟩, fun b hb => .inl hb⟩, o3.mono (fun _ h => by simp at h)⟩
  case done =>
    rintro D S W hD ⟨hb1, hb0, hO, rfl⟩ hK
    have e : (vals27 L).length = L.length := by simp [vals27]
    rw [e, List.take_length] at hb1
    obtain ⟨m, hm⟩ : ∃ m, minS L = m := ⟨_, rfl⟩
    rw [hm] at hb1
    have HM := Lib.hid hm
    clear hm
    obtain ⟨m0, m1, m2, ml⟩ := hb1.facts3
    obtain ⟨z0, z1, z2, zl⟩ := hb0.facts3
    have f0 := hb0.frozen 0
    have f1 := hb0.frozen 1
    have f2 := hb0.frozen 2
    go_wp2_with (fail)
    have hB2 : Blk (((W.setCell ⟨w.heap.size, 0, none⟩ (.int .i64 m.1.1)).setCell ⟨w.heap.size, 1, none⟩ (.int .i64 m.1.2)).setCell ⟨w.heap.size, 2, none⟩ (.int .i64 m.2)) w.heap.size 27 #[.int .i64 m.1.1, .int .i64 m.1.2, .int .i64 m.2] := ((hb0.set_ 0 (.int .i64 m.1.1)).set_ 1 (.int .i64 m.1.2)).set_ 2 (.int .i64 m.2)
    have hO2 := ((hO.setCell (p := ⟨w.heap.size, 0, none⟩) (.inr (Nat.le_refl _)) (.int .i64 m.1.1)).setCell (p := ⟨w.heap.size, 1, none⟩) (.inr (Nat.le_refl _)) (.int .i64 m.1.2)).setCell (p := ⟨w.heap.size, 2, none⟩) (.inr (Nat.le_refl _)) (.int .i64 m.2)
    have hK2 : Only [w.heap.size] W (((W.setCell ⟨w.heap.size, 0, none⟩ (.int .i64 m.1.1)).setCell ⟨w.heap.size, 1, none⟩ (.int .i64 m.1.2)).setCell ⟨w.heap.size, 2, none⟩ (.int .i64 m.2)) := (((Only.refl [w.heap.size] W).setCell (.inl (by simp)) _).setCell (.inl (by simp)) _).setCell (.inl (by simp)) _
    have hK3 : (((W.setCell ⟨w.heap.size, 0, none⟩ (.int .i64 m.1.1)).setCell ⟨w.heap.size, 1, none⟩ (.int .i64 m.1.2)).setCell ⟨w.heap.size, 2, none⟩ (.int .i64 m.2)).heap[D]? = some (.deferred (some [])) := (hK2.block D (Array.getElem?_eq_some_iff.1 hK).1 (by simp; omega)).trans hK
    clear hK2
    refine ⟨by simp, .inl ⟨_, _, rfl, run_takeDeferred hK3, ?_⟩⟩
    rw [HM.out]
    have hk := KeepC.putObj (B := D) (o' := .deferred none) hK3 rfl (Nat.le_refl _)
    obtain ⟨r0, r1, r2, _⟩ := (hk.blk hB2).facts3
    exact ⟨.agg #[.int .i64 m.1.1, .int .i64 m.1.2, .int .i64 m.2], by simp [results, Tryd.results22, go_sem, r0, r1, r2], rfl, hO2.keepC hk (by omega)⟩
end Go.Proofs.YtoefekgfklillaaDoor
