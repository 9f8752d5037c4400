/- AstWalks. -/
import Derived.Test.YtfnacnlaphpflaaDoorRWalk
import Derived.Test.YtfnacnlaphpflaaDoorRSame
namespace Go.Proofs.YtfnacnlaphpflaaDoor
open Go.RowKit Go.Kx
attribute [local go_sem] Oper.semAt_some
set_option maxRecDepth 100000

theorem flat5_at : ∀ {L : List Ex} {k : Nat} {y : Ex} {j : Nat} {u : Value}, L[k]? = some y → y.cs[j]? = some u → (flat5 L)[k * 5 + j]? = some u
  | [], _, _, _, _, h, _ => by simp at h
  | a :: l, 0, y, j, u, h, hj => by
    simp at h
    subst h
    have := (List.getElem?_eq_some_iff.1 hj).1
    rw [flat5, List.flatMap_cons, List.getElem?_append_left (by omega), show 0 * 5 + j = j by omega]
    exact hj
  | a :: l, k + 1, y, j, u, h, hj => by
    have ih := flat5_at (L := l) (k := k) (by simpa using h) hj
    rw [flat5, List.flatMap_cons, List.getElem?_append_right (by rw [cs_len]; omega), cs_len, show (k + 1) * 5 + j - 5 = k * 5 + j by omega]
    exact ih
/-- what the law's frame holds: the expression, how far, the answer -/
structure Fr (w W : World) (cs : Array Value) (z : Int) (b : Bool) : Prop where
  e : Blk W w.heap.size 24 cs
  s : Blk W (w.heap.size + 1) 5 #[.int .u8 z]
  r : Blk W (w.heap.size + 1 + 1) 4 #[.bool b]
  o : Only [] w W
theorem Fr.keep {w W W' : World} {cs : Array Value} {z : Int} {b : Bool} (h : Fr w W cs z b) (o : Only [] W W') : Fr w W' cs z b := ⟨o.blk h.e (by simp), o.blk h.s (by simp), o.blk h.r (by simp), h.o.trans o (by simp)⟩
set_option maxHeartbeats 4000000 in
theorem walks_any {e : Ex} {z : Int} {w : World} (hL : Lies w e) (hz0 : 0 ≤ z) (hz1 : z ≤ 255) (hW : WordsIs w) : Calls Tryd.prog 3 #[e.val, .int .u8 z] w fun r w' => r = .returned (.bool true) ∧ Only [] w w' := by
  have hrg := room_range e.tr 40 600 (by omega)
  have HSM := Lib.hid (fun h => room_small e.tr 40 600 h)
  have HSX := Lib.hid (fun h => room_sm e 40 600 h)
  have HAT := Lib.hid (exall_tr e)
  have HAL := Lib.hid (fun W (o : Only [] w W) => exall_lies e (hL.keep o))
  have C1 := Lib.hid (fun W (o : Only [] w W) => awake_any (hW.keep o))
  have CX := Lib.hid (fun W (o : Only [] w W) => expr_any e W (hL.keep o) 40 600 (by omega) (by omega) (by omega))
  have C12 := Lib.hid (fun W (o : Only [] w W) (h : e.all.length ≤ 1048576) => rwalk_any e W (hL.keep o) h)
  have C13 := Lib.hid (fun W (o : Only [] w W) (h : e.sm = true) => walk13 (hL.keep o) h)
  obtain ⟨za, hza⟩ : ∃ z, e.tr.room 40 600 = z := ⟨_, rfl⟩
  rw [hza] at CX HSM HSX hrg
  clear hL hW hza
  obtain ⟨op, n, nm, sb, A, cap, args⟩ := e
  obtain ⟨W3, hW3⟩ : ∃ W3, ((w.alloc (.cells #[.int .i64 op, .int .i64 n, .string nm, .string sb, .slice A args.length cap] 24)).alloc (.cells #[.int .u8 z] 5)).alloc (.cells #[.bool false] 4) = W3 := ⟨_, rfl⟩
  have ba : Blk W3 w.heap.size 24 #[.int .i64 op, .int .i64 n, .string nm, .string sb, .slice A args.length cap] := by rw [← hW3]; exact ((Blk.new w 24 _).alloc _).alloc _
  have bb : Blk W3 (w.heap.size + 1) 5 #[.int .u8 z] := by rw [← hW3]; have h := Blk.new (w.alloc (.cells #[.int .i64 op, .int .i64 n, .string nm, .string sb, .slice A args.length cap] 24)) 5 #[.int .u8 z]; simpa using h.alloc _
  have br : Blk W3 (w.heap.size + 1 + 1) 4 #[.bool false] := by rw [← hW3]; have h := Blk.new ((w.alloc (.cells #[.int .i64 op, .int .i64 n, .string nm, .string sb, .slice A args.length cap] 24)).alloc (.cells #[.int .u8 z] 5)) 4 #[.bool false]; simpa using h
  have oo : Only [] w W3 := by rw [← hW3]; exact (((Only.refl [] w).alloc _).alloc _).alloc _
  have K3 := Lib.hid (Fr.mk ba bb br oo)
  clear ba bb br oo
  refine calls_marks Tryd.func3 rfl ?_
  show Code.wp _ _ _ { tmps := #[.agg #[.int .i64 op, .int .i64 n, .string nm, .string sb, .slice A args.length cap], .int .u8 z] ++ _, defers := [] } w
  simp only [Tryd.ntmps3, List.size_toArray, List.length_cons, List.length_nil, Nat.reduceAdd, Nat.reduceSub, Array.replicate_succ, Array.replicate_zero, List.push_toArray, List.append_toArray, List.nil_append, List.cons_append]
  go_wp2_with (fail)
  clear hW3
  refine (C1.out _ K3.out.o).mono ?_
  rintro r w4 ⟨rfl, o4⟩
  have K4 := Lib.hid (K3.out.keep o4)
  clear o4
  obtain ⟨b0, b1, b2, b3, b4, bl⟩ := K4.out.e.facts5
  go_wp2_with (fail)
  refine (CX.out _ K4.out.o).mono ?_
  rintro r w5 ⟨rfl, o5⟩
  have K5 := Lib.hid (K4.out.keep o5)
  clear o5 b0 b1 b2 b3 b4 bl
  by_cases hza : za < 0
  · go_wp2_with (fail)
    refine (C1.out _ K5.out.o).mono ?_
    rintro r w6 ⟨rfl, o6⟩
    have K6 := Lib.hid (K5.out.keep o6)
    clear o6
    obtain ⟨r0, rl⟩ := K6.out.r.facts1
    have fr := K6.out.r.frozen 0
    go_wp2_with (fail)
    have hr2 := K6.out.r.set_ 0 (.bool true)
    obtain ⟨x0, _⟩ := Blk.facts1 (a := .bool true) hr2
    exact ⟨.bool true, by simp [results, Tryd.results3, go_sem, x0], rfl, K6.out.o.setCell (.inr (by simp; omega)) _⟩
  · have hza0 : 0 ≤ za := by omega
    obtain ⟨b0, b1, b2, b3, b4, bl⟩ := K5.out.e.facts5
    go_wp2_with (fail)
    have hcnt : (Ex.mk op n nm sb A cap args).all.length ≤ 1048576 := by
      have h1 := (HSM.out hza0).2
      have h2 := congrArg List.length HAT.out
      rw [List.length_map] at h2
      omega
    have hsm := HSX.out hza0
    refine (C12.out _ K5.out.o hcnt).mono ?_
    rintro r w6 ⟨Aw, cw, rfl, how, o6⟩
    have K6 := Lib.hid (K5.out.keep o6)
    have HOW := Lib.hid how
    clear o6 how b0 b1 b2 b3 b4 bl
    obtain ⟨b0, b1, b2, b3, b4, bl⟩ := K6.out.e.facts5
    have HCNT := Lib.hid hcnt
    have HSMM := Lib.hid hsm
    clear hcnt hsm
    generalize hML : (Ex.mk op n nm sb A cap args).all.length = N at *
    go_wp2_with (fail)
    have q1 := Blk.new w6 22 #[.slice Aw N cw]
    have o7 : Only [] w6 (w6.alloc (.cells #[.slice Aw N cw] 22)) := (Only.refl _ _).alloc _
    have hs7 : (w6.alloc (.cells #[.slice Aw N cw] 22)).heap.size = w6.heap.size + 1 := by simp
    have q2 := Blk.new (w6.alloc (.cells #[.slice Aw N cw] 22)) 3 #[.int .i64 0]
    have o8 : Only [] (w6.alloc (.cells #[.slice Aw N cw] 22)) ((w6.alloc (.cells #[.slice Aw N cw] 22)).alloc (.cells #[.int .i64 0] 3)) := (Only.refl _ _).alloc _
    rw [hs7] at q2
    have hs8 : ((w6.alloc (.cells #[.slice Aw N cw] 22)).alloc (.cells #[.int .i64 0] 3)).heap.size = w6.heap.size + 1 + 1 := by simp
    have Q1 := Lib.hid (o8.blk q1 (by simp))
    have Q2 := Lib.hid q2
    have O78 := Lib.hid (o7.trans o8 (by simp))
    have HS8 := Lib.hid hs8
    clear q1 q2 o7 o8 hs7 hs8 b0 b1 b2 b3 b4 bl
    generalize (w6.alloc (.cells #[.slice Aw N cw] 22)).alloc (.cells #[.int .i64 0] 3) = w8 at *
    refine (C13.out _ (K6.out.o.trans O78.out (by simp)) HSMM.out).mono ?_
    rintro r w9 ⟨cb, e', rfl, hcp, hcb, hcl, o9⟩
    have hseq := walk_seqs hcp.lies (sm_tr hcp.tr.symm HSMM.out) hcb hcp.top
    have hN : e'.tr.all.length = N := by
      rw [hcp.tr, ← hML, ← HAT.out, List.length_map]
    rw [hN] at hseq
    have HTR := Lib.hid hcp.tr
    have K9 := Lib.hid ((K6.out.keep O78.out).keep o9)
    have Q19 := Lib.hid (o9.blk Q1.out (by simp))
    have Q29 := Lib.hid (o9.blk Q2.out (by simp))
    have HOW9 := Lib.hid (ownsRow_only (O78.out.trans o9 (by simp)) HOW.out (fun _ _ => by simp))
    have hpr : ∀ b ∈ cb :: e'.blks, b ∉ [w.heap.size + 1 + 1, w6.heap.size + 1] := fun b hb hm => by
      have h1 := HS8.out
      have h2 := K6.out.r.lt
      have h3 : w8.heap.size ≤ b := by
        rcases List.mem_cons.1 hb with rfl | hb
        · exact hcl
        · exact hcp.off b hb
      simp at hm
      omega
    have HPR := Lib.hid hpr
    have HSEQ := Lib.hid hseq
    have K6l := Lib.hid K6.out.r.lt
    have HGW := Lib.hid (show ∀ p, Aw = some p → w.heap.size + 1 + 1 < p.block ∧ p.block < w6.heap.size from fun p hp => by subst hp; have := HOW.out.lt p.block rfl; have := K5.out.r.lt; omega)
    clear hpr hseq hcp hcb hcl hN o9 K6 HOW Q1 Q2
    go_wp2_with (fail)
    have hEs := congrArg List.length HAT.out
    rw [List.length_map, hML] at hEs
    have HAT2 := Lib.hid HAT.out
    obtain ⟨Es, hEs2⟩ : ∃ Es, (Ex.mk op n nm sb A cap args).all = Es := ⟨_, rfl⟩
    have HW1 := Lib.hid (show ∀ j u, (flat5 Es)[j]? = some u → ∃ g, Aw = some ⟨g, 0, none⟩ ∧ w9.cell? ⟨g, j, none⟩ = some u from fun j u hj => by
      rw [hEs2] at HOW9
      have hN0 : 0 < N := by
        rw [← hML, hEs2]
        cases Es with
        | nil => simp [flat5] at hj
        | cons a l => simp
      obtain ⟨g, hg, hc⟩ := own_cellW HOW9.out hN0
      exact ⟨g, hg, hc j u hj⟩)
    have HESL := Lib.hid (show Es.length = N from by rw [← hEs2, hML])
    have HLIE := Lib.hid (show ∀ x ∈ Es, Lies w x from by rw [← hEs2]; exact HAL.out _ (Only.refl _ _))
    have HTRA := Lib.hid (show Es.map Ex.tr = e'.tr.all from by rw [← hEs2, HTR.out]; exact HAT.out)
    have hn6 : w6.heap.size + 1 < w9.heap.size := Q29.out.lt
    have hrl : w.heap.size + 1 + 1 < w6.heap.size := K6l.out
    clear HAT HAT2 HAL C1 CX C12 C13 HSM HSX hEs hEs2 hML HOW9 HTR hza hza0 hrg K3 K4 K5
    refine' wp_rangeFunc_seqsP (gf := 34) (lb := #[.pointer (some ⟨cb, 0, none⟩)]) (N := N) (R := WR e'.tr.all) rfl (enters Tryd.func34 (by kernel_rfl) rfl)
      HSEQ.out (by rintro k v W ⟨x, rfl, _⟩; rfl) [w.heap.size + 1 + 1, w6.heap.size + 1] (by simp; omega) HPR.out
      (fun k S W => Blk W (w6.heap.size + 1) 3 #[.int .i64 k] ∧ Blk W (w.heap.size + 1 + 1) 4 #[.bool false] ∧ S = [w.heap.size + 1 + 1, w6.heap.size + 1] ∧ Only [w.heap.size + 1 + 1, w6.heap.size + 1] w9 W)
      (fun c W => c = .ret ∧ Blk W (w.heap.size + 1 + 1) 4 #[.bool true] ∧ Only [w.heap.size + 1 + 1, w6.heap.size + 1] w9 W) ?hI ?hIx ?h0 ?round ?done ?stop
    case hI =>
      rintro k S W1 W2 ⟨h1, h2, rfl, h4⟩ hk
      exact ⟨hk.blk h1, hk.blk h2, rfl, h4.keepC hk (Nat.le_refl _)⟩
    case hIx =>
      rintro c W1 W2 ⟨rfl, h2, h4⟩ hk
      exact ⟨rfl, hk.blk h2, h4.keepC hk (Nat.le_refl _)⟩
    case h0 => exact ⟨Q29.out, K9.out.r, rfl, Only.refl _ _⟩
    case done =>
      rintro D S W hD ⟨hn, hr, rfl, hO⟩ hKd
      obtain ⟨n0, nl⟩ := hn.facts1
      obtain ⟨r0, rl⟩ := hr.facts1
      have fr := hr.frozen 0
      obtain ⟨q0, ql⟩ := (hO.blk Q19.out (by simp; omega)).facts1
      have HRB := Lib.hid hr
      have HD := Lib.hid hKd
      have HOO := Lib.hid (show Only [] w W from K9.out.o.trans hO (fun b hb => by simp at hb; right; omega))
      clear hn hr hO hKd
      go_wp2_with (fail)
      have hr2 := HRB.out.set_ 0 (.bool true)
      have hO2 := HOO.out.setCell (p := ⟨w.heap.size + 1 + 1, 0, none⟩) (.inr (by simp; omega)) (.bool true)
      have hK3 := ((only_setCell W ⟨w.heap.size + 1 + 1, 0, none⟩ (.bool true)).block D (Array.getElem?_eq_some_iff.1 HD.out).1 (by simp; omega)).trans HD.out
      refine ⟨by simp, .inl ⟨_, _, rfl, run_takeDeferred hK3, ?_⟩⟩
      have hk := KeepC.putObj (B := D) (o' := .deferred none) hK3 rfl (Nat.le_refl _)
      obtain ⟨x0, _⟩ := (hk.blk hr2).facts1
      exact ⟨.bool true, by simp [results, Tryd.results3, go_sem, x0], rfl, hO2.keepC hk (by omega)⟩
    case stop =>
      rintro D c W hD ⟨rfl, hr, hO⟩ hKd
      have HRB := Lib.hid hr
      have HD := Lib.hid hKd
      have HOO := Lib.hid (show Only [] w W from K9.out.o.trans hO (fun b hb => by simp at hb; right; omega))
      clear hr hO hKd
      go_wp2_with (fail)
      refine ⟨by simp, .inl ⟨_, _, rfl, run_takeDeferred HD.out, ?_⟩⟩
      have hk := KeepC.putObj (B := D) (o' := .deferred none) HD.out rfl (Nat.le_refl _)
      obtain ⟨x0, _⟩ := (hk.blk HRB.out).facts1
      exact ⟨.bool true, by simp [results, Tryd.results3, go_sem, x0], rfl, HOO.out.keepC hk (by omega)⟩
    case round =>
      intro l k v S V hl hlS hk hR hIV
      obtain ⟨x, rfl, hxT, hxL⟩ := hR
      obtain ⟨y, hy⟩ : ∃ y, Es[k]? = some y := ⟨_, List.getElem?_eq_getElem (by rw [HESL.out]; exact hk)⟩
      have hxy : x.tr = y.tr := by
        have h1 := congrArg (·[k]?) HTRA.out
        simp only [List.getElem?_map, hy] at h1
        rw [hxT] at h1
        simpa using h1.symm
      have hyL := HLIE.out y (List.mem_of_getElem? hy)
      have hsame : x.tr.same y.tr = true := by rw [hxy, same_refl]
      have hyc : ∀ j u, y.cs[j]? = some u → (flat5 Es)[k * 5 + j]? = some u := fun j u hj => flat5_at hy hj
      obtain ⟨xop, xn, xnm, xsb, xA, xcap, xargs⟩ := x
      obtain ⟨yop, yn, ynm, ysb, yA, ycap, yargs⟩ := y
      obtain ⟨gw, rfl, y0⟩ := HW1.out _ _ (hyc 0 _ rfl)
      have yc : ∀ j u, (Ex.mk yop yn ynm ysb yA ycap yargs).cs[j]? = some u → w9.cell? ⟨gw, k * 5 + j, none⟩ = some u := fun j u hj => by
        obtain ⟨g, hg, hc⟩ := HW1.out _ _ (hyc j u hj)
        injection hg with hg
        injection hg with hg _ _
        subst hg
        exact hc
      have hgw : w.heap.size + 1 + 1 < gw ∧ gw < w6.heap.size := HGW.out _ rfl
      have HYC := Lib.hid (show gw < w9.heap.size ∧ w9.cell? ⟨gw, k * 5, none⟩ = some (.int .i64 yop) ∧ w9.cell? ⟨gw, k * 5 + 1, none⟩ = some (.int .i64 yn) ∧ w9.cell? ⟨gw, k * 5 + 2, none⟩ = some (.string ynm) ∧ w9.cell? ⟨gw, k * 5 + 3, none⟩ = some (.string ysb) ∧ w9.cell? ⟨gw, k * 5 + 4, none⟩ = some (.slice yA yargs.length ycap) from ⟨by have := hgw.2; omega, yc 0 _ rfl, yc 1 _ rfl, yc 2 _ rfl, yc 3 _ rfl, yc 4 _ rfl⟩)
      have HXL := Lib.hid hxL
      have HYL := Lib.hid hyL
      have HSAME := Lib.hid hsame
      clear hy hxT hxL hyL hxy hsame hyc y0 yc hIV
      show Code.wpIn _ _ _ _ _ { tmps := ((#[20] : Array Tmp).zip #[Value.agg #[.int .i64 xop, .int .i64 xn, .string xnm, .string xsb, .slice xA xargs.length xcap]]).foldl _ _, defers := [] } V
      gi_wp2_with (fail)
      refine ⟨(Only.refl [] V).alloc _, ?_⟩
      intro X hrec hIX hkk
      obtain ⟨hn, hr, hS, hO⟩ := hIX
      subst hS
      have HNB := Lib.hid hn
      have HRB := Lib.hid hr
      have HOX := Lib.hid hO
      have HXB := Lib.hid (hkk.blk (Blk.new V 24 #[.int .i64 xop, .int .i64 xn, .string xnm, .string xsb, .slice xA xargs.length xcap]))
      have HQB := Lib.hid (hO.blk Q19.out (by simp; omega))
      have HSB := Lib.hid (hO.blk K9.out.s (by simp; omega))
      have HOW := Lib.hid (show Only [] w X from K9.out.o.trans hO (fun b hb => by simp at hb; right; omega))
      have HCA := Lib.hid (show ∀ W, Only [] X W → Calls Tryd.prog 14 #[.agg #[.int .i64 xop, .int .i64 xn, .string xnm, .string xsb, .slice xA xargs.length xcap], .agg #[.int .i64 yop, .int .i64 yn, .string ynm, .string ysb, .slice yA yargs.length ycap]] W fun r w' => r = .returned (.bool true) ∧ Only [] W w' from fun W o => (rsame_any _ _ W (((HXL.out.keep ((Only.refl [] V).alloc (.cells #[.int .i64 xop, .int .i64 xn, .string xnm, .string xsb, .slice xA xargs.length xcap] 24))).keepC hkk).keep o) (HYL.out.keep (HOW.out.trans o (by simp)))).mono (by
        rintro r w' ⟨rfl, o2⟩
        exact ⟨by rw [HSAME.out], o2⟩))
      have HGE := Lib.hid (show decide (N ≤ k) = false from decide_eq_false (by omega))
      have HYX := Lib.hid (show gw < X.heap.size ∧ X.cell? ⟨gw, k * 5, none⟩ = some (.int .i64 yop) ∧ X.cell? ⟨gw, k * 5 + 1, none⟩ = some (.int .i64 yn) ∧ X.cell? ⟨gw, k * 5 + 2, none⟩ = some (.string ynm) ∧ X.cell? ⟨gw, k * 5 + 3, none⟩ = some (.string ysb) ∧ X.cell? ⟨gw, k * 5 + 4, none⟩ = some (.slice yA yargs.length ycap) from by
        have e : ∀ j v, w9.cell? ⟨gw, j, none⟩ = some v → X.cell? ⟨gw, j, none⟩ = some v := fun j v h => (hO.cell (p := ⟨gw, j, none⟩) HYC.out.1 (by simp; omega)).trans h
        exact ⟨Nat.lt_of_lt_of_le HYC.out.1 hO.size, e _ _ HYC.out.2.1, e _ _ HYC.out.2.2.1, e _ _ HYC.out.2.2.2.1, e _ _ HYC.out.2.2.2.2.1, e _ _ HYC.out.2.2.2.2.2⟩)
      obtain ⟨pb, hpb⟩ : ∃ pb, V.heap.size = pb := ⟨_, rfl⟩
      rw [hpb] at HXB ⊢
      have hkN : (k : Int) < (N : Int) := by omega
      have hki : (0 : Int) ≤ (k : Int) := by omega
      clear hn hr hO hkk hrec hpb
      gi_wp2_with (fail)
      refine wpIn_region_relR 13 (Only []) (fr := ?frg) (tl := ?tlg) (fun iq v wv => match iq with
        | 0 => v = .int .i64 (k : Int)
        | 1 => v = .slice (some ⟨gw, 0, none⟩) N cw
        | 2 => v = .int .i64 (N : Nat)
        | 3 => v = .bool false
        | 4 => v = .bool false
        | 5 => v = .agg #[.int .i64 xop, .int .i64 xn, .string xnm, .string xsb, .slice xA xargs.length xcap]
        | 6 => v = .slice (some ⟨gw, 0, none⟩) N cw
        | 7 => v = .int .i64 (k : Int)
        | 8 => v = .pointer (some ⟨gw, k * 5, none⟩)
        | 9 => v = .agg #[.int .i64 yop, .int .i64 yn, .string ynm, .string ysb, .slice yA yargs.length ycap]
        | 10 => v = .bool true
        | 11 => v = .bool false
        | 12 => v = .bool false
        | _ => True) (.inr ⟨_, rfl⟩) (by kernel_rfl) (by kernel_rfl) (by kernel_rfl) (by kernel_rfl) (by kernel_rfl) (by kernel_rfl) (by decide) ?htlg ?hfrg (Only.refl _ _) (fun _ _ _ h k => h.trans k (fun _ hx => .inl hx)) ?stabg ?stepsg ?doneg
      case htlg => simp only [List.drop_succ_cons, List.drop_zero]; rfl
      case hfrg => intro vals; simp only [putAll, dstAt, Act.put, List.getElem?_toArray, List.getElem?_cons_zero, List.getElem?_cons_succ, Option.bind_some, List.setIfInBounds_toArray, List.set_cons_zero, List.set_cons_succ]; rfl
      case stabg =>
        intro i v wa wb h
        try dsimp only
        split <;> first | exact id
      case stepsg =>
        refine ⟨?_, ?_, ?_, ?_, ?_, ?_, ?_, ?_, ?_, ?_, ?_, ?_, ?_, trivial⟩
        · intro vals wr hR hp K hK
          dsimp only at hK ⊢
          clear hp
          unfold RunsOp
          have tg := hR.blk (Blk.drew HNB.out) (by simp)
          obtain ⟨k0, kl⟩ := tg.facts1
          clear tg
          go_simp
          exact hK.out _ _ ⟨_, rfl, Only.refl _ _, rfl⟩
        · intro vals wr hR hp K hK
          dsimp only at hK ⊢
          clear hp
          unfold RunsOp
          have tg := hR.blk (Blk.drew HQB.out) (by simp)
          obtain ⟨k0, kl⟩ := tg.facts1
          clear tg
          go_simp
          exact hK.out _ _ ⟨_, rfl, Only.refl _ _, rfl⟩
        · intro vals wr hR hp K hK
          dsimp only at hK ⊢
          obtain ⟨p1, -⟩ := hp
          replace p1 := p1 rfl
          dsimp only at p1
          rw [p1] at hK ⊢
          clear p1
          unfold RunsOp
          go_simp
          exact hK.out _ _ ⟨_, rfl, Only.refl _ _, rfl⟩
        · intro vals wr hR hp K hK
          dsimp only at hK ⊢
          obtain ⟨p0, p2, -⟩ := hp
          replace p0 := p0 rfl
          replace p2 := p2 rfl
          dsimp only at p0 p2
          rw [p0, p2] at hK ⊢
          clear p0 p2
          unfold RunsOp
          have hge := HGE.out
          go_simp
          exact hK.out _ _ ⟨_, rfl, Only.refl _ _, rfl⟩
        · intro vals wr hR hp K hK
          dsimp only at hK ⊢
          obtain ⟨p3, -⟩ := hp
          replace p3 := p3 rfl
          dsimp only at p3
          rw [p3] at hK ⊢
          clear p3
          unfold RunsOp
          go_simp
          exact hK.out _ _ ⟨_, rfl, Only.refl _ _, rfl⟩
        · intro vals wr hR hp K hK
          dsimp only at hK ⊢
          obtain ⟨p4, -⟩ := hp
          replace p4 := p4 rfl
          dsimp only at p4
          rw [p4] at hK ⊢
          clear p4
          unfold RunsOp
          have tg := hR.blk (Blk.drew HXB.out) (by simp)
          obtain ⟨k0, k1, k2, k3, k4, kl⟩ := tg.facts5
          clear tg
          go_simp
          exact hK.out _ _ ⟨_, rfl, Only.refl _ _, rfl⟩
        · intro vals wr hR hp K hK
          dsimp only at hK ⊢
          obtain ⟨p4, -⟩ := hp
          replace p4 := p4 rfl
          dsimp only at p4
          rw [p4] at hK ⊢
          clear p4
          unfold RunsOp
          have tg := hR.blk (Blk.drew HQB.out) (by simp)
          obtain ⟨k0, kl⟩ := tg.facts1
          clear tg
          go_simp
          exact hK.out _ _ ⟨_, rfl, Only.refl _ _, rfl⟩
        · intro vals wr hR hp K hK
          dsimp only at hK ⊢
          obtain ⟨p4, -⟩ := hp
          replace p4 := p4 rfl
          dsimp only at p4
          rw [p4] at hK ⊢
          clear p4
          unfold RunsOp
          have tg := hR.blk (Blk.drew HNB.out) (by simp)
          obtain ⟨k0, kl⟩ := tg.facts1
          clear tg
          go_simp
          exact hK.out _ _ ⟨_, rfl, Only.refl _ _, rfl⟩
        · intro vals wr hR hp K hK
          dsimp only at hK ⊢
          obtain ⟨p6, p7, p4, -⟩ := hp
          replace p6 := p6 rfl
          replace p7 := p7 rfl
          replace p4 := p4 rfl
          dsimp only at p6 p7 p4
          rw [p6, p7, p4] at hK ⊢
          clear p6 p7 p4
          unfold RunsOp
          go_simp
          exact hK.out _ _ ⟨_, rfl, Only.refl _ _, rfl⟩
        · intro vals wr hR hp K hK
          dsimp only at hK ⊢
          obtain ⟨p8, p4, -⟩ := hp
          replace p8 := p8 rfl
          replace p4 := p4 rfl
          dsimp only at p8 p4
          rw [p8, p4] at hK ⊢
          clear p8 p4
          unfold RunsOp
          have k0 := (hR.cell (p := ⟨gw, k * 5, none⟩) HYX.out.1 (by simp)).trans HYX.out.2.1
          have k1 := (hR.cell (p := ⟨gw, k * 5 + 1, none⟩) HYX.out.1 (by simp)).trans HYX.out.2.2.1
          have k2 := (hR.cell (p := ⟨gw, k * 5 + 2, none⟩) HYX.out.1 (by simp)).trans HYX.out.2.2.2.1
          have k3 := (hR.cell (p := ⟨gw, k * 5 + 3, none⟩) HYX.out.1 (by simp)).trans HYX.out.2.2.2.2.1
          have k4 := (hR.cell (p := ⟨gw, k * 5 + 4, none⟩) HYX.out.1 (by simp)).trans HYX.out.2.2.2.2.2
          go_simp
          exact hK.out _ _ ⟨_, rfl, Only.refl _ _, rfl⟩
        · intro vals wr hR hp K hK
          dsimp only at hK ⊢
          obtain ⟨p5, p9, p4, -, -⟩ := hp
          replace p5 := p5 rfl
          replace p9 := p9 rfl
          replace p4 := p4 rfl
          dsimp only at p5 p9 p4
          rw [p5, p9, p4] at hK ⊢
          clear p5 p9 p4
          unfold RunsOp
          go_simp
          refine (HCA.out _ (((Only.refl [] X).drew).trans hR (by simp))).mono ?_
          rintro e w2 ⟨rfl, o2⟩
          exact hK.out _ _ ⟨_, rfl, o2, rfl⟩
        · intro vals wr hR hp K hK
          dsimp only at hK ⊢
          obtain ⟨p10, p4, -⟩ := hp
          replace p10 := p10 rfl
          replace p4 := p4 rfl
          dsimp only at p10 p4
          rw [p10, p4] at hK ⊢
          clear p10 p4
          unfold RunsOp
          go_simp
          exact hK.out _ _ ⟨_, rfl, Only.refl _ _, rfl⟩
        · intro vals wr hR hp K hK
          dsimp only at hK ⊢
          obtain ⟨p4, p11, -⟩ := hp
          replace p4 := p4 rfl
          replace p11 := p11 rfl
          dsimp only at p4 p11
          rw [p4, p11] at hK ⊢
          clear p4 p11
          unfold RunsOp
          go_simp
          exact hK.out _ _ ⟨_, rfl, Only.refl _ _, rfl⟩
      case doneg =>
        intro vals wd hR hF
        have f0 : vals 0 = .int .i64 (k : Int) := hF 0 (by decide)
        have f1 : vals 1 = .slice (some ⟨gw, 0, none⟩) N cw := hF 1 (by decide)
        have f2 : vals 2 = .int .i64 (N : Nat) := hF 2 (by decide)
        have f3 : vals 3 = .bool false := hF 3 (by decide)
        have f4 : vals 4 = .bool false := hF 4 (by decide)
        have f5 : vals 5 = .agg #[.int .i64 xop, .int .i64 xn, .string xnm, .string xsb, .slice xA xargs.length xcap] := hF 5 (by decide)
        have f6 : vals 6 = .slice (some ⟨gw, 0, none⟩) N cw := hF 6 (by decide)
        have f7 : vals 7 = .int .i64 (k : Int) := hF 7 (by decide)
        have f8 : vals 8 = .pointer (some ⟨gw, k * 5, none⟩) := hF 8 (by decide)
        have f9 : vals 9 = .agg #[.int .i64 yop, .int .i64 yn, .string ynm, .string ysb, .slice yA yargs.length ycap] := hF 9 (by decide)
        have f10 : (vals 10) = .bool true := hF 10 (by decide)
        have f11 : vals 11 = .bool false := hF 11 (by decide)
        have f12 : vals 12 = .bool false := hF 12 (by decide)
        rw [f0, f1, f2, f3, f4, f5, f6, f7, f8, f9, f11, f12]
        clear f0 f1 f2 f3 f4 f5 f6 f7 f8 f9 f11 f12
        rw [f10]
        clear f10
        have oXd : Only [] X wd := ((Only.refl [] X).drew).trans hR (by simp)
        have HNd := Lib.hid (oXd.blk HNB.out (by simp))
        have HRd := Lib.hid (oXd.blk HRB.out (by simp))
        have HSd := Lib.hid (oXd.blk HSB.out (by simp))
        have HOd := Lib.hid (HOX.out.trans oXd (by simp))
        have HXd := Lib.hid oXd
        clear hR hF oXd
        obtain ⟨n0, nl⟩ := HNd.out.facts1
        have nfr := HNd.out.frozen 0
        obtain ⟨s0, sl⟩ := HSd.out.facts1
        obtain ⟨r0, rl⟩ := HRd.out.facts1
        have rfr := HRd.out.frozen 0
        have hne1 : ¬ w6.heap.size + 1 = w.heap.size + 1 := by omega
        have hne2 : ¬ w6.heap.size + 1 = w.heap.size + 1 + 1 := by omega
        have hne3 : ¬ w.heap.size + 1 = w6.heap.size + 1 := by omega
        have hne4 : ¬ w.heap.size + 1 + 1 = w6.heap.size + 1 := by omega
        have hkb : (k : Int) ≤ 1048576 := by have := HCNT.out; omega
        have HWD := Lib.hid HXd.out.size
        by_cases hbr : z ≤ (k : Int) + 1
        · have hd : decide (z ≤ (k : Int) + 1) = true := by simpa using hbr
          gi_wp2_with (fail)
          have hr2 := (Blk.far HRd.out (p := ⟨w6.heap.size + 1, 0, none⟩) (by simpa using hne4) (.int .i64 ((k : Int) + 1))).set_ 0 (.bool true)
          have o1 : Only [w.heap.size + 1 + 1, w6.heap.size + 1] wd ((wd.setCell ⟨w6.heap.size + 1, 0, none⟩ (.int .i64 ((k : Int) + 1))).setCell ⟨w.heap.size + 1 + 1, 0, none⟩ (.bool true)) := ((Only.refl _ wd).setCell (.inl (by simp)) _).setCell (.inl (by simp)) _
          exact ⟨⟨rfl, by simpa using hr2, HOd.out.trans o1 (fun b hb => .inl hb)⟩, (HXd.out.mono (fun _ h => by simp at h)).trans o1 (fun b hb => .inl hb)⟩
        · have hd : decide (z ≤ (k : Int) + 1) = false := by simpa using hbr
          gi_wp2_with (fail)
          have hn2 := HNd.out.set_ 0 (.int .i64 ((k : Int) + 1))
          have hr2 := Blk.far HRd.out (p := ⟨w6.heap.size + 1, 0, none⟩) (by simpa using hne4) (.int .i64 ((k : Int) + 1))
          have o1 : Only [w.heap.size + 1 + 1, w6.heap.size + 1] wd (wd.setCell ⟨w6.heap.size + 1, 0, none⟩ (.int .i64 ((k : Int) + 1))) := (Only.refl _ wd).setCell (.inl (by simp)) _
          refine ⟨⟨_, ⟨by simpa using hn2, hr2, rfl, HOd.out.trans o1 (fun b hb => .inl hb)⟩, fun b hb => ⟨.inl hb, ?_⟩⟩, (HXd.out.mono (fun _ h => by simp at h)).trans o1 (fun b hb => .inl hb)⟩
          simp at hb
          rcases hb with rfl | rfl
          · exact hr2.lt
          · exact hn2.lt
end Go.Proofs.YtfnacnlaphpflaaDoor
