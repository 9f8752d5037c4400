/- ValueCmps, walked. -/
import Derived.Test.YtgpljjejfebhoaaDoorAwake
import Derived.Test.YtgpljjejfebhoaaDoorFew
import Derived.Test.YtgpljjejfebhoaaDoorRefCmp
import Derived.Test.YtgpljjejfebhoaaDoorRefSame
import Derived.Test.YtgpljjejfebhoaaDoorRefRight
import Derived.Test.YtgpljjejfebhoaaDoorFactsR
namespace Go.Proofs.YtgpljjejfebhoaaDoor
open Go.RowKit Go.Kx Go.Val
set_option maxRecDepth 100000
theorem few_lit {l : List Vx} {w : World} (hL : ∀ e ∈ l, LiesV w e) (hn : l.length ≤ 1000) :
    Calls Tryd.prog 19 #[.slice (some ⟨w.heap.size, 0, none⟩) l.length l.length] (w.alloc (.cells (l.flatMap Vx.cs).toArray 34)) fun r w' => r = .returned (.bool (fewB l)) ∧ Only [] w w' := by
  have o : Only [] w (w.alloc (.cells (l.flatMap Vx.cs).toArray 34)) := (Only.refl _ _).alloc _
  exact (few_any ⟨row_flatV (Blk.new w 34 _), fun e he => (hL e he).keep o, by omega⟩ hn).mono (by rintro r w' ⟨rfl, h⟩; exact ⟨rfl, o.trans h (by simp)⟩)
theorem few_sm {l : List Vx} (h : fewB l = true) : ∀ e ∈ l, e.sm = true ∧ e.tr.all.length ≤ 400 := fun e he => by
  have h1 := List.all_eq_true.1 h e he
  simp only [decide_eq_true_eq] at h1
  have h2 := room_all e.tr 8 400 h1
  exact ⟨room_sm e 8 400 h1, by omega⟩
theorem rcmp_def (a b : Vt) : rcmp a b = if a.ok 3 = true ∧ b.ok 3 = true then a.cmp b else 0 := by
  unfold rcmp
  cases a.ok 3 <;> cases b.ok 3 <;> simp
set_option maxHeartbeats 4000000 in
theorem cmps_any {e1 e2 : Vx} {w : World} (hL1 : LiesV w e1) (hL2 : LiesV w e2) (hT : Tab10 w) : Calls Tryd.prog 8 #[e1.val, e2.val] w fun r w' => r = .returned (.bool true) ∧ Only [] w w' := by
  have C1 := Lib.hid (fun W (o : Only [] w W) => awake_any (hT.only o))
  have CF := Lib.hid (fun W (o : Only [] w W) => few_lit (l := [e1, e2]) (w := W) (fun e he => by simp at he; rcases he with rfl | rfl; exact hL1.keep o; exact hL2.keep o) (by simp))
  have R1 := Lib.hid (fun W (o : Only [] w W) => refrightV e1 W (hL1.keep o) 3 (by omega))
  have R2 := Lib.hid (fun W (o : Only [] w W) => refrightV e2 W (hL2.keep o) 3 (by omega))
  have D33 := Lib.hid (fun W (o : Only [] w W) => refcmp_any e1 e2 W (hL1.keep o) (hL2.keep o))
  have D31 := Lib.hid (fun W (o : Only [] w W) => cmp_any e1 e2 W (hL1.keep o) (hL2.keep o))
  have D32 := Lib.hid (fun W (o : Only [] w W) => sameV e1 e2 W (hL1.keep o) (hL2.keep o))
  have D22 := Lib.hid (fun W (o : Only [] w W) => refsameV e1 e2 W (hL1.keep o) (hL2.keep o))
  have HV := Lib.hid (rcmp_def e1.tr e2.tr)
  obtain ⟨fb, hfb⟩ : ∃ z, fewB [e1, e2] = z := ⟨_, rfl⟩
  obtain ⟨q1, hk1⟩ : ∃ z, e1.tr.ok 3 = z := ⟨_, rfl⟩
  obtain ⟨q2, hk2⟩ : ∃ z, e2.tr.ok 3 = z := ⟨_, rfl⟩
  obtain ⟨cv, hcv⟩ : ∃ z, e1.tr.cmp e2.tr = z := ⟨_, rfl⟩
  obtain ⟨rv, hrv⟩ : ∃ z, rcmp e1.tr e2.tr = z := ⟨_, rfl⟩
  obtain ⟨sm, hsm⟩ : ∃ z, e1.tr.same e2.tr = z := ⟨_, rfl⟩
  rw [hfb] at CF
  rw [hk1] at R1 HV
  rw [hk2] at R2 HV
  rw [hcv] at D33 HV
  rw [hrv] at D31 HV
  rw [hsm] at D32 D22
  clear hL1 hL2 hT hfb hk1 hk2 hcv hrv hsm
  obtain ⟨k1, n1, s1, A1, cap1, l1⟩ := e1
  obtain ⟨k2, n2, s2, A2, cap2, l2⟩ := e2
  have hb1 := Blk.new (w) 34 #[.int .i64 k1, .int .i64 n1, .string s1, .slice A1 l1.length cap1]
  have hb2 := Blk.new ((w).alloc (.cells #[.int .i64 k1, .int .i64 n1, .string s1, .slice A1 l1.length cap1] 34)) 34 #[.int .i64 k2, .int .i64 n2, .string s2, .slice A2 l2.length cap2]
  rw [show ((w).alloc (.cells #[.int .i64 k1, .int .i64 n1, .string s1, .slice A1 l1.length cap1] 34)).heap.size = w.heap.size + 1 by simp] at hb2
  have X10 := Lib.hid (show Blk (((w).alloc (.cells #[.int .i64 k1, .int .i64 n1, .string s1, .slice A1 l1.length cap1] 34)).alloc (.cells #[.int .i64 k2, .int .i64 n2, .string s2, .slice A2 l2.length cap2] 34)) (w.heap.size) 34 #[.int .i64 k1, .int .i64 n1, .string s1, .slice A1 l1.length cap1] from (Blk.alloc hb1 _))
  have X20 := Lib.hid (show Blk (((w).alloc (.cells #[.int .i64 k1, .int .i64 n1, .string s1, .slice A1 l1.length cap1] 34)).alloc (.cells #[.int .i64 k2, .int .i64 n2, .string s2, .slice A2 l2.length cap2] 34)) (w.heap.size + 1) 34 #[.int .i64 k2, .int .i64 n2, .string s2, .slice A2 l2.length cap2] from hb2)
  have O0 := Lib.hid (show Only [] w (((w).alloc (.cells #[.int .i64 k1, .int .i64 n1, .string s1, .slice A1 l1.length cap1] 34)).alloc (.cells #[.int .i64 k2, .int .i64 n2, .string s2, .slice A2 l2.length cap2] 34)) from ((Only.refl [] w).alloc _).alloc _)
  clear hb1 hb2
  show Calls Tryd.prog 8 #[.agg #[.int .i64 k1, .int .i64 n1, .string s1, .slice A1 l1.length cap1], .agg #[.int .i64 k2, .int .i64 n2, .string s2, .slice A2 l2.length cap2]] w _
  have CF2 := Lib.hid (show ∀ W, Only [] w W → Calls Tryd.prog 19 #[.slice (some ⟨W.heap.size, 0, none⟩) 2 2] (W.alloc (.cells #[.int .i64 k1, .int .i64 n1, .string s1, .slice A1 l1.length cap1, .int .i64 k2, .int .i64 n2, .string s2, .slice A2 l2.length cap2] 34)) _ from CF.out)
  clear CF
  go_enter Tryd.func8, Tryd.ntmps8
  go_wp2_with (fail)
  refine (C1.out _ O0.out).mono ?_
  rintro r w1 ⟨rfl, o1⟩
  have O1 := Lib.hid (O0.out.trans o1 (by simp))
  have X11 := Lib.hid (o1.blk X10.out (by simp))
  have X21 := Lib.hid (o1.blk X20.out (by simp))
  clear o1 
  obtain ⟨b10, b11, b12, b13, bl1⟩ := X11.out.facts4
  obtain ⟨b20, b21, b22, b23, bl2⟩ := X21.out.facts4
  go_wp2_with (fail)
  refine (CF2.out _ O1.out).mono ?_
  rintro r w2 ⟨rfl, o2⟩
  have O2 := Lib.hid (O1.out.trans o2 (by simp))
  have X12 := Lib.hid (o2.blk X11.out (by simp))
  have X22 := Lib.hid (o2.blk X21.out (by simp))
  clear o2 
  clear b10 b11 b12 b13 bl1 b20 b21 b22 b23 bl2
  obtain ⟨b10, b11, b12, b13, bl1⟩ := X12.out.facts4
  obtain ⟨b20, b21, b22, b23, bl2⟩ := X22.out.facts4
  cases fb with
  | false =>
    go_wp2_with (fail)
    refine (C1.out _ O2.out).mono ?_
    rintro r w3 ⟨rfl, o3⟩
    have O3 := Lib.hid (O2.out.trans o3 (by simp))
    have X13 := Lib.hid (o3.blk X12.out (by simp))
    have X23 := Lib.hid (o3.blk X22.out (by simp))
    clear o3 
    clear b10 b11 b12 b13 bl1 b20 b21 b22 b23 bl2
    go_wp2_with (fail)
    go_ret
    exact ⟨rfl, O3.out⟩
  | true =>
    go_wp2_with (fail)
    refine (R1.out _ O2.out).mono ?_
    rintro r w3 ⟨rfl, o3⟩
    have O3 := Lib.hid (O2.out.trans o3 (by simp))
    have X13 := Lib.hid (o3.blk X12.out (by simp))
    have X23 := Lib.hid (o3.blk X22.out (by simp))
    clear o3 
    clear b10 b11 b12 b13 bl1 b20 b21 b22 b23 bl2
    obtain ⟨b10, b11, b12, b13, bl1⟩ := X13.out.facts4
    obtain ⟨b20, b21, b22, b23, bl2⟩ := X23.out.facts4
    cases q1 with
    | false =>
      have hz := HV.out
      simp at hz
      subst hz
      go_wp2_with (fail)
      have HX := Lib.hid (fun W (o : Only [] w3.drew W) => O3.out.trans ((Only.refl [] w3).drew.trans o (by simp)) (by simp))
      clear b10 b11 b12 b13 bl1 b20 b21 b22 b23 bl2
      refine (wpIn_wide (n := 9)).1 ?_
      refine wpIn_region_relR 14 (Only []) (fr := ?frg1) (tl := ?tlg1) (fun iq v wv => match iq with
        | 0 => v = .agg #[.int .i64 k1, .int .i64 n1, .string s1, .slice A1 l1.length cap1]
        | 1 => v = .agg #[.int .i64 k2, .int .i64 n2, .string s2, .slice A2 l2.length cap2]
        | 2 => v = .int .i64 0
        | 3 => v = .int .i64 0
        | 4 => v = .bool true
        | 5 => v = .bool true
        | 6 => v = .agg #[.int .i64 k1, .int .i64 n1, .string s1, .slice A1 l1.length cap1]
        | 7 => v = .agg #[.int .i64 k2, .int .i64 n2, .string s2, .slice A2 l2.length cap2]
        | 8 => v = .bool sm
        | 9 => v = .agg #[.int .i64 k1, .int .i64 n1, .string s1, .slice A1 l1.length cap1]
        | 10 => v = .agg #[.int .i64 k2, .int .i64 n2, .string s2, .slice A2 l2.length cap2]
        | 11 => v = .bool sm
        | 12 => v = .bool true
        | 13 => v = .bool true
        | _ => True) (.inl rfl) (by kernel_rfl) (by kernel_rfl) (by kernel_rfl) (by kernel_rfl) (by kernel_rfl) (by kernel_rfl) (by decide) ?htlg1 ?hfrg1 (Only.refl _ _) (fun _ _ _ h k => h.trans k (fun _ hx => .inl hx)) ?stabg1 ?stepsg1 ?doneg1
      case htlg1 => simp only [List.drop_succ_cons, List.drop_zero]; rfl
      case hfrg1 => intro vals; simp only [putAll, dstAt, Act.put, List.getElem?_toArray, List.getElem?_cons_zero, List.getElem?_cons_succ, Option.bind_some, List.setIfInBounds_toArray, List.set_cons_zero, List.set_cons_succ]; rfl
      case stabg1 =>
        intro i v wa wb h
        try dsimp only
        split <;> first | exact id
      case stepsg1 =>
        refine ⟨?_, ?_, ?_, ?_, ?_, ?_, ?_, ?_, ?_, ?_, ?_, ?_, ?_, ?_, trivial⟩
        · intro vals wr hR hp K hK
          dsimp only at hK ⊢
          clear hp
          unfold RunsOp
          have tg := hR.blk (Blk.drew X13.out) (by simp)
          obtain ⟨k0, k1, k2, k3, kl⟩ := tg.facts4
          clear tg
          go_simp
          exact hK.out _ _ ⟨_, rfl, Only.refl _ _, rfl⟩
        · intro vals wr hR hp K hK
          dsimp only at hK ⊢
          clear hp
          unfold RunsOp
          have tg := hR.blk (Blk.drew X23.out) (by simp)
          obtain ⟨k0, k1, k2, k3, kl⟩ := tg.facts4
          clear tg
          go_simp
          exact hK.out _ _ ⟨_, rfl, Only.refl _ _, rfl⟩
        · intro vals wr hR hp K hK
          dsimp only at hK ⊢
          obtain ⟨p0, p1, -⟩ := hp
          replace p0 := p0 rfl
          replace p1 := p1 rfl
          dsimp only at p0 p1
          rw [p0, p1] at hK ⊢
          clear p0 p1
          unfold RunsOp
          go_simp
          refine (D31.out _ (HX.out _ hR)).mono ?_
          rintro e w2 ⟨rfl, o2⟩
          exact hK.out _ _ ⟨_, rfl, o2, rfl⟩
        · intro vals wr hR hp K hK
          dsimp only at hK ⊢
          clear hp
          unfold RunsOp
          go_simp
          exact hK.out _ _ ⟨_, rfl, Only.refl _ _, rfl⟩
        · intro vals wr hR hp K hK
          dsimp only at hK ⊢
          obtain ⟨p2, p3, -⟩ := hp
          replace p2 := p2 rfl
          replace p3 := p3 rfl
          dsimp only at p2 p3
          rw [p2, p3] at hK ⊢
          clear p2 p3
          unfold RunsOp
          go_simp
          exact hK.out _ _ ⟨_, rfl, Only.refl _ _, rfl⟩
        · intro vals wr hR hp K hK
          dsimp only at hK ⊢
          obtain ⟨p4, -, -⟩ := hp
          replace p4 := p4 rfl
          dsimp only at p4
          rw [p4] at hK ⊢
          clear p4
          unfold RunsOp
          go_simp
          exact hK.out _ _ ⟨_, rfl, Only.refl _ _, rfl⟩
        · intro vals wr hR hp K hK
          dsimp only at hK ⊢
          obtain ⟨p5, -⟩ := hp
          replace p5 := p5 rfl
          dsimp only at p5
          rw [p5] at hK ⊢
          clear p5
          unfold RunsOp
          have tg := hR.blk (Blk.drew X13.out) (by simp)
          obtain ⟨k0, k1, k2, k3, kl⟩ := tg.facts4
          clear tg
          go_simp
          exact hK.out _ _ ⟨_, rfl, Only.refl _ _, rfl⟩
        · intro vals wr hR hp K hK
          dsimp only at hK ⊢
          obtain ⟨p5, -⟩ := hp
          replace p5 := p5 rfl
          dsimp only at p5
          rw [p5] at hK ⊢
          clear p5
          unfold RunsOp
          have tg := hR.blk (Blk.drew X23.out) (by simp)
          obtain ⟨k0, k1, k2, k3, kl⟩ := tg.facts4
          clear tg
          go_simp
          exact hK.out _ _ ⟨_, rfl, Only.refl _ _, rfl⟩
        · intro vals wr hR hp K hK
          dsimp only at hK ⊢
          obtain ⟨p6, p7, p5, -, -⟩ := hp
          replace p6 := p6 rfl
          replace p7 := p7 rfl
          replace p5 := p5 rfl
          dsimp only at p6 p7 p5
          rw [p6, p7, p5] at hK ⊢
          clear p6 p7 p5
          unfold RunsOp
          go_simp
          refine (D32.out _ (HX.out _ hR)).mono ?_
          rintro e w2 ⟨rfl, o2⟩
          exact hK.out _ _ ⟨_, rfl, o2, rfl⟩
        · intro vals wr hR hp K hK
          dsimp only at hK ⊢
          obtain ⟨p5, -⟩ := hp
          replace p5 := p5 rfl
          dsimp only at p5
          rw [p5] at hK ⊢
          clear p5
          unfold RunsOp
          have tg := hR.blk (Blk.drew X13.out) (by simp)
          obtain ⟨k0, k1, k2, k3, kl⟩ := tg.facts4
          clear tg
          go_simp
          exact hK.out _ _ ⟨_, rfl, Only.refl _ _, rfl⟩
        · intro vals wr hR hp K hK
          dsimp only at hK ⊢
          obtain ⟨p5, -⟩ := hp
          replace p5 := p5 rfl
          dsimp only at p5
          rw [p5] at hK ⊢
          clear p5
          unfold RunsOp
          have tg := hR.blk (Blk.drew X23.out) (by simp)
          obtain ⟨k0, k1, k2, k3, kl⟩ := tg.facts4
          clear tg
          go_simp
          exact hK.out _ _ ⟨_, rfl, Only.refl _ _, rfl⟩
        · intro vals wr hR hp K hK
          dsimp only at hK ⊢
          obtain ⟨p9, p10, -, p5, -⟩ := hp
          replace p9 := p9 rfl
          replace p10 := p10 rfl
          replace p5 := p5 rfl
          dsimp only at p9 p10 p5
          rw [p9, p10, p5] at hK ⊢
          clear p9 p10 p5
          unfold RunsOp
          go_simp
          refine (D22.out _ (HX.out _ hR)).mono ?_
          rintro e w2 ⟨rfl, o2⟩
          exact hK.out _ _ ⟨_, rfl, o2, rfl⟩
        · intro vals wr hR hp K hK
          dsimp only at hK ⊢
          obtain ⟨p8, p11, p5, -⟩ := hp
          replace p8 := p8 rfl
          replace p11 := p11 rfl
          replace p5 := p5 rfl
          dsimp only at p8 p11 p5
          rw [p8, p11, p5] at hK ⊢
          clear p8 p11 p5
          unfold RunsOp
          go_simp
          exact hK.out _ _ ⟨_, rfl, Only.refl _ _, rfl⟩
        · intro vals wr hR hp K hK
          dsimp only at hK ⊢
          obtain ⟨p5, p12, -⟩ := hp
          replace p5 := p5 rfl
          replace p12 := p12 rfl
          dsimp only at p5 p12
          rw [p5, p12] at hK ⊢
          clear p5 p12
          unfold RunsOp
          go_simp
          exact hK.out _ _ ⟨_, rfl, Only.refl _ _, rfl⟩
      case doneg1 =>
        intro vals wd hR hF
        have f0 : vals 0 = .agg #[.int .i64 k1, .int .i64 n1, .string s1, .slice A1 l1.length cap1] := hF 0 (by decide)
        have f1 : vals 1 = .agg #[.int .i64 k2, .int .i64 n2, .string s2, .slice A2 l2.length cap2] := hF 1 (by decide)
        have f2 : (vals 2) = .int .i64 0 := hF 2 (by decide)
        have f3 : vals 3 = .int .i64 0 := hF 3 (by decide)
        have f4 : vals 4 = .bool true := hF 4 (by decide)
        have f5 : vals 5 = .bool true := hF 5 (by decide)
        have f6 : vals 6 = .agg #[.int .i64 k1, .int .i64 n1, .string s1, .slice A1 l1.length cap1] := hF 6 (by decide)
        have f7 : vals 7 = .agg #[.int .i64 k2, .int .i64 n2, .string s2, .slice A2 l2.length cap2] := hF 7 (by decide)
        have f8 : (vals 8) = .bool sm := hF 8 (by decide)
        have f9 : vals 9 = .agg #[.int .i64 k1, .int .i64 n1, .string s1, .slice A1 l1.length cap1] := hF 9 (by decide)
        have f10 : vals 10 = .agg #[.int .i64 k2, .int .i64 n2, .string s2, .slice A2 l2.length cap2] := hF 10 (by decide)
        have f11 : (vals 11) = .bool sm := hF 11 (by decide)
        have f12 : vals 12 = .bool true := hF 12 (by decide)
        have f13 : vals 13 = .bool true := hF 13 (by decide)
        rw [f0, f1, f3, f4, f5, f6, f7, f9, f10, f12, f13]
        clear f0 f1 f3 f4 f5 f6 f7 f9 f10 f12 f13
        rw [f2, f8, f11]
        clear f2 f8 f11
        have O9 := Lib.hid (HX.out _ hR)
        clear hR hF
        gi_wp2_with (fail)
        go_wp2_with (fail)
        go_ret
        exact ⟨rfl, O9.out⟩
    | true =>
      go_wp2_with (fail)
      refine (R2.out _ O3.out).mono ?_
      rintro r w4 ⟨rfl, o4⟩
      have O4 := Lib.hid (O3.out.trans o4 (by simp))
      have X14 := Lib.hid (o4.blk X13.out (by simp))
      have X24 := Lib.hid (o4.blk X23.out (by simp))
      clear o4 
      clear b10 b11 b12 b13 bl1 b20 b21 b22 b23 bl2
      obtain ⟨b10, b11, b12, b13, bl1⟩ := X14.out.facts4
      obtain ⟨b20, b21, b22, b23, bl2⟩ := X24.out.facts4
      cases q2 with
      | false =>
        have hz := HV.out
        simp at hz
        subst hz
        go_wp2_with (fail)
        have HX := Lib.hid (fun W (o : Only [] w4.drew W) => O4.out.trans ((Only.refl [] w4).drew.trans o (by simp)) (by simp))
        clear b10 b11 b12 b13 bl1 b20 b21 b22 b23 bl2
        refine (wpIn_wide (n := 9)).1 ?_
        refine wpIn_region_relR 14 (Only []) (fr := ?frg2) (tl := ?tlg2) (fun iq v wv => match iq with
          | 0 => v = .agg #[.int .i64 k1, .int .i64 n1, .string s1, .slice A1 l1.length cap1]
          | 1 => v = .agg #[.int .i64 k2, .int .i64 n2, .string s2, .slice A2 l2.length cap2]
          | 2 => v = .int .i64 0
          | 3 => v = .int .i64 0
          | 4 => v = .bool true
          | 5 => v = .bool true
          | 6 => v = .agg #[.int .i64 k1, .int .i64 n1, .string s1, .slice A1 l1.length cap1]
          | 7 => v = .agg #[.int .i64 k2, .int .i64 n2, .string s2, .slice A2 l2.length cap2]
          | 8 => v = .bool sm
          | 9 => v = .agg #[.int .i64 k1, .int .i64 n1, .string s1, .slice A1 l1.length cap1]
          | 10 => v = .agg #[.int .i64 k2, .int .i64 n2, .string s2, .slice A2 l2.length cap2]
          | 11 => v = .bool sm
          | 12 => v = .bool true
          | 13 => v = .bool true
          | _ => True) (.inl rfl) (by kernel_rfl) (by kernel_rfl) (by kernel_rfl) (by kernel_rfl) (by kernel_rfl) (by kernel_rfl) (by decide) ?htlg2 ?hfrg2 (Only.refl _ _) (fun _ _ _ h k => h.trans k (fun _ hx => .inl hx)) ?stabg2 ?stepsg2 ?doneg2
        case htlg2 => simp only [List.drop_succ_cons, List.drop_zero]; rfl
        case hfrg2 => intro vals; simp only [putAll, dstAt, Act.put, List.getElem?_toArray, List.getElem?_cons_zero, List.getElem?_cons_succ, Option.bind_some, List.setIfInBounds_toArray, List.set_cons_zero, List.set_cons_succ]; rfl
        case stabg2 =>
          intro i v wa wb h
          try dsimp only
          split <;> first | exact id
        case stepsg2 =>
          refine ⟨?_, ?_, ?_, ?_, ?_, ?_, ?_, ?_, ?_, ?_, ?_, ?_, ?_, ?_, trivial⟩
          · intro vals wr hR hp K hK
            dsimp only at hK ⊢
            clear hp
            unfold RunsOp
            have tg := hR.blk (Blk.drew X14.out) (by simp)
            obtain ⟨k0, k1, k2, k3, kl⟩ := tg.facts4
            clear tg
            go_simp
            exact hK.out _ _ ⟨_, rfl, Only.refl _ _, rfl⟩
          · intro vals wr hR hp K hK
            dsimp only at hK ⊢
            clear hp
            unfold RunsOp
            have tg := hR.blk (Blk.drew X24.out) (by simp)
            obtain ⟨k0, k1, k2, k3, kl⟩ := tg.facts4
            clear tg
            go_simp
            exact hK.out _ _ ⟨_, rfl, Only.refl _ _, rfl⟩
          · intro vals wr hR hp K hK
            dsimp only at hK ⊢
            obtain ⟨p0, p1, -⟩ := hp
            replace p0 := p0 rfl
            replace p1 := p1 rfl
            dsimp only at p0 p1
            rw [p0, p1] at hK ⊢
            clear p0 p1
            unfold RunsOp
            go_simp
            refine (D31.out _ (HX.out _ hR)).mono ?_
            rintro e w2 ⟨rfl, o2⟩
            exact hK.out _ _ ⟨_, rfl, o2, rfl⟩
          · intro vals wr hR hp K hK
            dsimp only at hK ⊢
            clear hp
            unfold RunsOp
            go_simp
            exact hK.out _ _ ⟨_, rfl, Only.refl _ _, rfl⟩
          · intro vals wr hR hp K hK
            dsimp only at hK ⊢
            obtain ⟨p2, p3, -⟩ := hp
            replace p2 := p2 rfl
            replace p3 := p3 rfl
            dsimp only at p2 p3
            rw [p2, p3] at hK ⊢
            clear p2 p3
            unfold RunsOp
            go_simp
            exact hK.out _ _ ⟨_, rfl, Only.refl _ _, rfl⟩
          · intro vals wr hR hp K hK
            dsimp only at hK ⊢
            obtain ⟨p4, -, -⟩ := hp
            replace p4 := p4 rfl
            dsimp only at p4
            rw [p4] at hK ⊢
            clear p4
            unfold RunsOp
            go_simp
            exact hK.out _ _ ⟨_, rfl, Only.refl _ _, rfl⟩
          · intro vals wr hR hp K hK
            dsimp only at hK ⊢
            obtain ⟨p5, -⟩ := hp
            replace p5 := p5 rfl
            dsimp only at p5
            rw [p5] at hK ⊢
            clear p5
            unfold RunsOp
            have tg := hR.blk (Blk.drew X14.out) (by simp)
            obtain ⟨k0, k1, k2, k3, kl⟩ := tg.facts4
            clear tg
            go_simp
            exact hK.out _ _ ⟨_, rfl, Only.refl _ _, rfl⟩
          · intro vals wr hR hp K hK
            dsimp only at hK ⊢
            obtain ⟨p5, -⟩ := hp
            replace p5 := p5 rfl
            dsimp only at p5
            rw [p5] at hK ⊢
            clear p5
            unfold RunsOp
            have tg := hR.blk (Blk.drew X24.out) (by simp)
            obtain ⟨k0, k1, k2, k3, kl⟩ := tg.facts4
            clear tg
            go_simp
            exact hK.out _ _ ⟨_, rfl, Only.refl _ _, rfl⟩
          · intro vals wr hR hp K hK
            dsimp only at hK ⊢
            obtain ⟨p6, p7, p5, -, -⟩ := hp
            replace p6 := p6 rfl
            replace p7 := p7 rfl
            replace p5 := p5 rfl
            dsimp only at p6 p7 p5
            rw [p6, p7, p5] at hK ⊢
            clear p6 p7 p5
            unfold RunsOp
            go_simp
            refine (D32.out _ (HX.out _ hR)).mono ?_
            rintro e w2 ⟨rfl, o2⟩
            exact hK.out _ _ ⟨_, rfl, o2, rfl⟩
          · intro vals wr hR hp K hK
            dsimp only at hK ⊢
            obtain ⟨p5, -⟩ := hp
            replace p5 := p5 rfl
            dsimp only at p5
            rw [p5] at hK ⊢
            clear p5
            unfold RunsOp
            have tg := hR.blk (Blk.drew X14.out) (by simp)
            obtain ⟨k0, k1, k2, k3, kl⟩ := tg.facts4
            clear tg
            go_simp
            exact hK.out _ _ ⟨_, rfl, Only.refl _ _, rfl⟩
          · intro vals wr hR hp K hK
            dsimp only at hK ⊢
            obtain ⟨p5, -⟩ := hp
            replace p5 := p5 rfl
            dsimp only at p5
            rw [p5] at hK ⊢
            clear p5
            unfold RunsOp
            have tg := hR.blk (Blk.drew X24.out) (by simp)
            obtain ⟨k0, k1, k2, k3, kl⟩ := tg.facts4
            clear tg
            go_simp
            exact hK.out _ _ ⟨_, rfl, Only.refl _ _, rfl⟩
          · intro vals wr hR hp K hK
            dsimp only at hK ⊢
            obtain ⟨p9, p10, -, p5, -⟩ := hp
            replace p9 := p9 rfl
            replace p10 := p10 rfl
            replace p5 := p5 rfl
            dsimp only at p9 p10 p5
            rw [p9, p10, p5] at hK ⊢
            clear p9 p10 p5
            unfold RunsOp
            go_simp
            refine (D22.out _ (HX.out _ hR)).mono ?_
            rintro e w2 ⟨rfl, o2⟩
            exact hK.out _ _ ⟨_, rfl, o2, rfl⟩
          · intro vals wr hR hp K hK
            dsimp only at hK ⊢
            obtain ⟨p8, p11, p5, -⟩ := hp
            replace p8 := p8 rfl
            replace p11 := p11 rfl
            replace p5 := p5 rfl
            dsimp only at p8 p11 p5
            rw [p8, p11, p5] at hK ⊢
            clear p8 p11 p5
            unfold RunsOp
            go_simp
            exact hK.out _ _ ⟨_, rfl, Only.refl _ _, rfl⟩
          · intro vals wr hR hp K hK
            dsimp only at hK ⊢
            obtain ⟨p5, p12, -⟩ := hp
            replace p5 := p5 rfl
            replace p12 := p12 rfl
            dsimp only at p5 p12
            rw [p5, p12] at hK ⊢
            clear p5 p12
            unfold RunsOp
            go_simp
            exact hK.out _ _ ⟨_, rfl, Only.refl _ _, rfl⟩
        case doneg2 =>
          intro vals wd hR hF
          have f0 : vals 0 = .agg #[.int .i64 k1, .int .i64 n1, .string s1, .slice A1 l1.length cap1] := hF 0 (by decide)
          have f1 : vals 1 = .agg #[.int .i64 k2, .int .i64 n2, .string s2, .slice A2 l2.length cap2] := hF 1 (by decide)
          have f2 : (vals 2) = .int .i64 0 := hF 2 (by decide)
          have f3 : vals 3 = .int .i64 0 := hF 3 (by decide)
          have f4 : vals 4 = .bool true := hF 4 (by decide)
          have f5 : vals 5 = .bool true := hF 5 (by decide)
          have f6 : vals 6 = .agg #[.int .i64 k1, .int .i64 n1, .string s1, .slice A1 l1.length cap1] := hF 6 (by decide)
          have f7 : vals 7 = .agg #[.int .i64 k2, .int .i64 n2, .string s2, .slice A2 l2.length cap2] := hF 7 (by decide)
          have f8 : (vals 8) = .bool sm := hF 8 (by decide)
          have f9 : vals 9 = .agg #[.int .i64 k1, .int .i64 n1, .string s1, .slice A1 l1.length cap1] := hF 9 (by decide)
          have f10 : vals 10 = .agg #[.int .i64 k2, .int .i64 n2, .string s2, .slice A2 l2.length cap2] := hF 10 (by decide)
          have f11 : (vals 11) = .bool sm := hF 11 (by decide)
          have f12 : vals 12 = .bool true := hF 12 (by decide)
          have f13 : vals 13 = .bool true := hF 13 (by decide)
          rw [f0, f1, f3, f4, f5, f6, f7, f9, f10, f12, f13]
          clear f0 f1 f3 f4 f5 f6 f7 f9 f10 f12 f13
          rw [f2, f8, f11]
          clear f2 f8 f11
          have O9 := Lib.hid (HX.out _ hR)
          clear hR hF
          gi_wp2_with (fail)
          go_wp2_with (fail)
          go_ret
          exact ⟨rfl, O9.out⟩
      | true =>
        have hz := HV.out
        simp at hz
        subst hz
        go_wp2_with (fail)
        refine (D33.out _ O4.out).mono ?_
        rintro r w5 ⟨rfl, o5⟩
        have O5 := Lib.hid (O4.out.trans o5 (by simp))
        have X15 := Lib.hid (o5.blk X14.out (by simp))
        have X25 := Lib.hid (o5.blk X24.out (by simp))
        clear o5 
        clear b10 b11 b12 b13 bl1 b20 b21 b22 b23 bl2
        obtain ⟨b10, b11, b12, b13, bl1⟩ := X15.out.facts4
        obtain ⟨b20, b21, b22, b23, bl2⟩ := X25.out.facts4
        go_wp2_with (fail)
        have HX := Lib.hid (fun W (o : Only [] w5.drew W) => O5.out.trans ((Only.refl [] w5).drew.trans o (by simp)) (by simp))
        clear b10 b11 b12 b13 bl1 b20 b21 b22 b23 bl2
        refine (wpIn_wide (n := 9)).1 ?_
        refine wpIn_region_relR 14 (Only []) (fr := ?frg3) (tl := ?tlg3) (fun iq v wv => match iq with
          | 0 => v = .agg #[.int .i64 k1, .int .i64 n1, .string s1, .slice A1 l1.length cap1]
          | 1 => v = .agg #[.int .i64 k2, .int .i64 n2, .string s2, .slice A2 l2.length cap2]
          | 2 => v = .int .i64 rv
          | 3 => v = .int .i64 rv
          | 4 => v = .bool true
          | 5 => v = .bool true
          | 6 => v = .agg #[.int .i64 k1, .int .i64 n1, .string s1, .slice A1 l1.length cap1]
          | 7 => v = .agg #[.int .i64 k2, .int .i64 n2, .string s2, .slice A2 l2.length cap2]
          | 8 => v = .bool sm
          | 9 => v = .agg #[.int .i64 k1, .int .i64 n1, .string s1, .slice A1 l1.length cap1]
          | 10 => v = .agg #[.int .i64 k2, .int .i64 n2, .string s2, .slice A2 l2.length cap2]
          | 11 => v = .bool sm
          | 12 => v = .bool true
          | 13 => v = .bool true
          | _ => True) (.inl rfl) (by kernel_rfl) (by kernel_rfl) (by kernel_rfl) (by kernel_rfl) (by kernel_rfl) (by kernel_rfl) (by decide) ?htlg3 ?hfrg3 (Only.refl _ _) (fun _ _ _ h k => h.trans k (fun _ hx => .inl hx)) ?stabg3 ?stepsg3 ?doneg3
        case htlg3 => simp only [List.drop_succ_cons, List.drop_zero]; rfl
        case hfrg3 => intro vals; simp only [putAll, dstAt, Act.put, List.getElem?_toArray, List.getElem?_cons_zero, List.getElem?_cons_succ, Option.bind_some, List.setIfInBounds_toArray, List.set_cons_zero, List.set_cons_succ]; rfl
        case stabg3 =>
          intro i v wa wb h
          try dsimp only
          split <;> first | exact id
        case stepsg3 =>
          refine ⟨?_, ?_, ?_, ?_, ?_, ?_, ?_, ?_, ?_, ?_, ?_, ?_, ?_, ?_, trivial⟩
          · intro vals wr hR hp K hK
            dsimp only at hK ⊢
            clear hp
            unfold RunsOp
            have tg := hR.blk (Blk.drew X15.out) (by simp)
            obtain ⟨k0, k1, k2, k3, kl⟩ := tg.facts4
            clear tg
            go_simp
            exact hK.out _ _ ⟨_, rfl, Only.refl _ _, rfl⟩
          · intro vals wr hR hp K hK
            dsimp only at hK ⊢
            clear hp
            unfold RunsOp
            have tg := hR.blk (Blk.drew X25.out) (by simp)
            obtain ⟨k0, k1, k2, k3, kl⟩ := tg.facts4
            clear tg
            go_simp
            exact hK.out _ _ ⟨_, rfl, Only.refl _ _, rfl⟩
          · intro vals wr hR hp K hK
            dsimp only at hK ⊢
            obtain ⟨p0, p1, -⟩ := hp
            replace p0 := p0 rfl
            replace p1 := p1 rfl
            dsimp only at p0 p1
            rw [p0, p1] at hK ⊢
            clear p0 p1
            unfold RunsOp
            go_simp
            refine (D31.out _ (HX.out _ hR)).mono ?_
            rintro e w2 ⟨rfl, o2⟩
            exact hK.out _ _ ⟨_, rfl, o2, rfl⟩
          · intro vals wr hR hp K hK
            dsimp only at hK ⊢
            clear hp
            unfold RunsOp
            go_simp
            exact hK.out _ _ ⟨_, rfl, Only.refl _ _, rfl⟩
          · intro vals wr hR hp K hK
            dsimp only at hK ⊢
            obtain ⟨p2, p3, -⟩ := hp
            replace p2 := p2 rfl
            replace p3 := p3 rfl
            dsimp only at p2 p3
            rw [p2, p3] at hK ⊢
            clear p2 p3
            unfold RunsOp
            go_simp
            exact hK.out _ _ ⟨_, rfl, Only.refl _ _, rfl⟩
          · intro vals wr hR hp K hK
            dsimp only at hK ⊢
            obtain ⟨p4, -, -⟩ := hp
            replace p4 := p4 rfl
            dsimp only at p4
            rw [p4] at hK ⊢
            clear p4
            unfold RunsOp
            go_simp
            exact hK.out _ _ ⟨_, rfl, Only.refl _ _, rfl⟩
          · intro vals wr hR hp K hK
            dsimp only at hK ⊢
            obtain ⟨p5, -⟩ := hp
            replace p5 := p5 rfl
            dsimp only at p5
            rw [p5] at hK ⊢
            clear p5
            unfold RunsOp
            have tg := hR.blk (Blk.drew X15.out) (by simp)
            obtain ⟨k0, k1, k2, k3, kl⟩ := tg.facts4
            clear tg
            go_simp
            exact hK.out _ _ ⟨_, rfl, Only.refl _ _, rfl⟩
          · intro vals wr hR hp K hK
            dsimp only at hK ⊢
            obtain ⟨p5, -⟩ := hp
            replace p5 := p5 rfl
            dsimp only at p5
            rw [p5] at hK ⊢
            clear p5
            unfold RunsOp
            have tg := hR.blk (Blk.drew X25.out) (by simp)
            obtain ⟨k0, k1, k2, k3, kl⟩ := tg.facts4
            clear tg
            go_simp
            exact hK.out _ _ ⟨_, rfl, Only.refl _ _, rfl⟩
          · intro vals wr hR hp K hK
            dsimp only at hK ⊢
            obtain ⟨p6, p7, p5, -, -⟩ := hp
            replace p6 := p6 rfl
            replace p7 := p7 rfl
            replace p5 := p5 rfl
            dsimp only at p6 p7 p5
            rw [p6, p7, p5] at hK ⊢
            clear p6 p7 p5
            unfold RunsOp
            go_simp
            refine (D32.out _ (HX.out _ hR)).mono ?_
            rintro e w2 ⟨rfl, o2⟩
            exact hK.out _ _ ⟨_, rfl, o2, rfl⟩
          · intro vals wr hR hp K hK
            dsimp only at hK ⊢
            obtain ⟨p5, -⟩ := hp
            replace p5 := p5 rfl
            dsimp only at p5
            rw [p5] at hK ⊢
            clear p5
            unfold RunsOp
            have tg := hR.blk (Blk.drew X15.out) (by simp)
            obtain ⟨k0, k1, k2, k3, kl⟩ := tg.facts4
            clear tg
            go_simp
            exact hK.out _ _ ⟨_, rfl, Only.refl _ _, rfl⟩
          · intro vals wr hR hp K hK
            dsimp only at hK ⊢
            obtain ⟨p5, -⟩ := hp
            replace p5 := p5 rfl
            dsimp only at p5
            rw [p5] at hK ⊢
            clear p5
            unfold RunsOp
            have tg := hR.blk (Blk.drew X25.out) (by simp)
            obtain ⟨k0, k1, k2, k3, kl⟩ := tg.facts4
            clear tg
            go_simp
            exact hK.out _ _ ⟨_, rfl, Only.refl _ _, rfl⟩
          · intro vals wr hR hp K hK
            dsimp only at hK ⊢
            obtain ⟨p9, p10, -, p5, -⟩ := hp
            replace p9 := p9 rfl
            replace p10 := p10 rfl
            replace p5 := p5 rfl
            dsimp only at p9 p10 p5
            rw [p9, p10, p5] at hK ⊢
            clear p9 p10 p5
            unfold RunsOp
            go_simp
            refine (D22.out _ (HX.out _ hR)).mono ?_
            rintro e w2 ⟨rfl, o2⟩
            exact hK.out _ _ ⟨_, rfl, o2, rfl⟩
          · intro vals wr hR hp K hK
            dsimp only at hK ⊢
            obtain ⟨p8, p11, p5, -⟩ := hp
            replace p8 := p8 rfl
            replace p11 := p11 rfl
            replace p5 := p5 rfl
            dsimp only at p8 p11 p5
            rw [p8, p11, p5] at hK ⊢
            clear p8 p11 p5
            unfold RunsOp
            go_simp
            exact hK.out _ _ ⟨_, rfl, Only.refl _ _, rfl⟩
          · intro vals wr hR hp K hK
            dsimp only at hK ⊢
            obtain ⟨p5, p12, -⟩ := hp
            replace p5 := p5 rfl
            replace p12 := p12 rfl
            dsimp only at p5 p12
            rw [p5, p12] at hK ⊢
            clear p5 p12
            unfold RunsOp
            go_simp
            exact hK.out _ _ ⟨_, rfl, Only.refl _ _, rfl⟩
        case doneg3 =>
          intro vals wd hR hF
          have f0 : vals 0 = .agg #[.int .i64 k1, .int .i64 n1, .string s1, .slice A1 l1.length cap1] := hF 0 (by decide)
          have f1 : vals 1 = .agg #[.int .i64 k2, .int .i64 n2, .string s2, .slice A2 l2.length cap2] := hF 1 (by decide)
          have f2 : (vals 2) = .int .i64 rv := hF 2 (by decide)
          have f3 : vals 3 = .int .i64 rv := hF 3 (by decide)
          have f4 : vals 4 = .bool true := hF 4 (by decide)
          have f5 : vals 5 = .bool true := hF 5 (by decide)
          have f6 : vals 6 = .agg #[.int .i64 k1, .int .i64 n1, .string s1, .slice A1 l1.length cap1] := hF 6 (by decide)
          have f7 : vals 7 = .agg #[.int .i64 k2, .int .i64 n2, .string s2, .slice A2 l2.length cap2] := hF 7 (by decide)
          have f8 : (vals 8) = .bool sm := hF 8 (by decide)
          have f9 : vals 9 = .agg #[.int .i64 k1, .int .i64 n1, .string s1, .slice A1 l1.length cap1] := hF 9 (by decide)
          have f10 : vals 10 = .agg #[.int .i64 k2, .int .i64 n2, .string s2, .slice A2 l2.length cap2] := hF 10 (by decide)
          have f11 : (vals 11) = .bool sm := hF 11 (by decide)
          have f12 : vals 12 = .bool true := hF 12 (by decide)
          have f13 : vals 13 = .bool true := hF 13 (by decide)
          rw [f0, f1, f3, f4, f5, f6, f7, f9, f10, f12, f13]
          clear f0 f1 f3 f4 f5 f6 f7 f9 f10 f12 f13
          rw [f2, f8, f11]
          clear f2 f8 f11
          have O9 := Lib.hid (HX.out _ hR)
          clear hR hF
          gi_wp2_with (fail)
          go_wp2_with (fail)
          go_ret
          exact ⟨rfl, O9.out⟩
end Go.Proofs.YtgpljjejfebhoaaDoor
