/- ValueTypes, walked. -/
import Derived.Test.YtgpljjejfebhoaaDoorAwake
import Derived.Test.YtgpljjejfebhoaaDoorRoom
import Derived.Test.YtgpljjejfebhoaaDoorRefSame
import Derived.Test.YtgpljjejfebhoaaDoorRefRight
import Derived.Test.YtgpljjejfebhoaaDoorFactsR
namespace Go.Proofs.YtgpljjejfebhoaaDoor
open Go.RowKit Go.Kx Go.Val
set_option maxRecDepth 100000
set_option maxHeartbeats 4000000 in
theorem types_any {e1 e2 : Tx} {w : World} (hL1 : LiesT w e1) (hL2 : LiesT w e2) (hT : Tab10 w) : Calls Tryd.prog 4 #[e1.val, e2.val] w fun r w' => r = .returned (.bool true) ∧ Only [] w w' := by
  have C1 := Lib.hid (fun W (o : Only [] w W) => awake_any (hT.only o))
  have S1 := Lib.hid (fun W (o : Only [] w W) => smallT e1 W (hL1.keep o) 8 400 (by omega) (by omega) (by omega))
  have S2 := Lib.hid (fun W (o : Only [] w W) => smallT e2 W (hL2.keep o) 8 400 (by omega) (by omega) (by omega))
  have D13 := Lib.hid (fun W (o : Only [] w W) => topT (hL1.keep o))
  have D14 := Lib.hid (fun W (o : Only [] w W) => refrightT e1 W (hL1.keep o) 3 (by omega))
  have D15 := Lib.hid (fun W (o : Only [] w W) => sameT e1 e2 W (hL1.keep o) (hL2.keep o))
  have D16 := Lib.hid (fun W (o : Only [] w W) => refsameT e1 e2 W (hL1.keep o) (hL2.keep o))
  have D15s := Lib.hid (fun W (o : Only [] w W) => sameT e1 e1 W (hL1.keep o) (hL1.keep o))
  have D17 := Lib.hid (fun W (o : Only [] w W) => totextT (hL1.keep o))
  have D18 := Lib.hid (fun W (o : Only [] w W) (h : e1.tr.ok 3 = true) => rtextT e1 W (hL1.keep o) 3 (by omega) h)
  have HSS := Lib.hid ((Tt.same_iff e1.tr e1.tr).2 rfl)
  rw [HSS.out] at D15s
  have HTX := Lib.hid (show e1.tr.text = if e1.tr.ok 3 = true then e1.tr.txt else [] from rfl)
  obtain ⟨q1, hq1⟩ : ∃ z, e1.tr.ok 3 = z := ⟨_, rfl⟩
  obtain ⟨z1, hz1⟩ : ∃ z, e1.tr.room 8 400 = z := ⟨_, rfl⟩
  obtain ⟨z2, hz2⟩ : ∃ z, e2.tr.room 8 400 = z := ⟨_, rfl⟩
  obtain ⟨sm, hsm⟩ : ∃ z, e1.tr.same e2.tr = z := ⟨_, rfl⟩
  obtain ⟨tt, htt⟩ : ∃ z, e1.tr.text = z := ⟨_, rfl⟩
  obtain ⟨tx, htx⟩ : ∃ z, e1.tr.txt = z := ⟨_, rfl⟩
  rw [hq1] at D13 D14 D18 HTX
  rw [hz1] at S1
  rw [hz2] at S2
  rw [hsm] at D15 D16
  rw [htt] at D17 HTX
  rw [htx] at D18 HTX
  clear hL1 hL2 hT hq1 hz1 hz2 hsm htt htx HSS
  obtain ⟨k1, A1, cap1, l1⟩ := e1
  obtain ⟨k2, A2, cap2, l2⟩ := e2
  have hb1 := Blk.new (w) 26 #[.int .i64 k1, .slice A1 l1.length cap1]
  have hb2 := Blk.new ((w).alloc (.cells #[.int .i64 k1, .slice A1 l1.length cap1] 26)) 26 #[.int .i64 k2, .slice A2 l2.length cap2]
  rw [show ((w).alloc (.cells #[.int .i64 k1, .slice A1 l1.length cap1] 26)).heap.size = w.heap.size + 1 by simp] at hb2
  have X10 := Lib.hid (show Blk (((w).alloc (.cells #[.int .i64 k1, .slice A1 l1.length cap1] 26)).alloc (.cells #[.int .i64 k2, .slice A2 l2.length cap2] 26)) (w.heap.size) 26 #[.int .i64 k1, .slice A1 l1.length cap1] from (Blk.alloc hb1 _))
  have X20 := Lib.hid (show Blk (((w).alloc (.cells #[.int .i64 k1, .slice A1 l1.length cap1] 26)).alloc (.cells #[.int .i64 k2, .slice A2 l2.length cap2] 26)) (w.heap.size + 1) 26 #[.int .i64 k2, .slice A2 l2.length cap2] from hb2)
  have O0 := Lib.hid (show Only [] w (((w).alloc (.cells #[.int .i64 k1, .slice A1 l1.length cap1] 26)).alloc (.cells #[.int .i64 k2, .slice A2 l2.length cap2] 26)) from ((Only.refl [] w).alloc _).alloc _)
  clear hb1 hb2
  show Calls Tryd.prog 4 #[.agg #[.int .i64 k1, .slice A1 l1.length cap1], .agg #[.int .i64 k2, .slice A2 l2.length cap2]] w _
  go_enter Tryd.func4, Tryd.ntmps4
  go_wp2_with (fail)
  refine (C1.out _ O0.out).mono ?_
  rintro r w1 ⟨rfl, o1⟩
  have O1 := Lib.hid (O0.out.trans o1 (by simp))
  have X11 := Lib.hid (o1.blk X10.out (by simp))
  have X21 := Lib.hid (o1.blk X20.out (by simp))
  clear o1 
  obtain ⟨b10, b11, bl1⟩ := X11.out.facts2
  obtain ⟨b20, b21, bl2⟩ := X21.out.facts2
  go_wp2_with (fail)
  refine (S1.out _ O1.out).mono ?_
  rintro r w2 ⟨rfl, o2⟩
  have O2 := Lib.hid (O1.out.trans o2 (by simp))
  have X12 := Lib.hid (o2.blk X11.out (by simp))
  have X22 := Lib.hid (o2.blk X21.out (by simp))
  clear o2 
  clear b10 b11 bl1 b20 b21 bl2
  obtain ⟨b10, b11, bl1⟩ := X12.out.facts2
  obtain ⟨b20, b21, bl2⟩ := X22.out.facts2
  by_cases hz1 : z1 < 0
  · have d1 : decide (z1 < 0) = true := decide_eq_true hz1
    go_wp2_with (fail)
    refine (C1.out _ O2.out).mono ?_
    rintro r w3 ⟨rfl, o3⟩
    have O3 := Lib.hid (O2.out.trans o3 (by simp))
    have X13 := Lib.hid (o3.blk X12.out (by simp))
    have X23 := Lib.hid (o3.blk X22.out (by simp))
    clear o3 
    clear b10 b11 bl1 b20 b21 bl2
    go_wp2_with (fail)
    go_ret
    exact ⟨rfl, O3.out⟩
  · have d1 : decide (z1 < 0) = false := decide_eq_false hz1
    go_wp2_with (fail)
    refine (S2.out _ O2.out).mono ?_
    rintro r w3 ⟨rfl, o3⟩
    have O3 := Lib.hid (O2.out.trans o3 (by simp))
    have X13 := Lib.hid (o3.blk X12.out (by simp))
    have X23 := Lib.hid (o3.blk X22.out (by simp))
    clear o3 
    clear b10 b11 bl1 b20 b21 bl2
    obtain ⟨b10, b11, bl1⟩ := X13.out.facts2
    obtain ⟨b20, b21, bl2⟩ := X23.out.facts2
    by_cases hz2 : z2 < 0
    · have d2 : decide (z2 < 0) = true := decide_eq_true hz2
      go_wp2_with (fail)
      refine (C1.out _ O3.out).mono ?_
      rintro r w4 ⟨rfl, o4⟩
      have O4 := Lib.hid (O3.out.trans o4 (by simp))
      have X14 := Lib.hid (o4.blk X13.out (by simp))
      have X24 := Lib.hid (o4.blk X23.out (by simp))
      clear o4 
      clear b10 b11 bl1 b20 b21 bl2
      go_wp2_with (fail)
      go_ret
      exact ⟨rfl, O4.out⟩
    · have d2 : decide (z2 < 0) = false := decide_eq_false hz2
      go_wp2_with (fail)
      clear hz1 hz2 d1 d2
      have HX := Lib.hid (fun W (o : Only [] w3.drew W) => O3.out.trans ((Only.refl [] w3).drew.trans o (by simp)) (by simp))
      clear b10 b11 bl1 b20 b21 bl2
      refine (wpIn_wide (n := 9)).1 ?_
      refine wpIn_region_relR 20 (Only []) (fr := ?frg1) (tl := ?tlg1) (fun iq v wv => match iq with
        | 0 => v = .agg #[.int .i64 k1, .slice A1 l1.length cap1]
        | 1 => v = .bool q1
        | 2 => v = .agg #[.int .i64 k1, .slice A1 l1.length cap1]
        | 3 => v = .bool q1
        | 4 => v = .bool false
        | 5 => v = .bool false
        | 6 => v = .agg #[.int .i64 k1, .slice A1 l1.length cap1]
        | 7 => v = .agg #[.int .i64 k2, .slice A2 l2.length cap2]
        | 8 => v = .bool sm
        | 9 => v = .agg #[.int .i64 k1, .slice A1 l1.length cap1]
        | 10 => v = .agg #[.int .i64 k2, .slice A2 l2.length cap2]
        | 11 => v = .bool sm
        | 12 => v = .bool false
        | 13 => v = .bool false
        | 14 => v = .bool false
        | 15 => v = .agg #[.int .i64 k1, .slice A1 l1.length cap1]
        | 16 => v = .agg #[.int .i64 k1, .slice A1 l1.length cap1]
        | 17 => v = .bool true
        | 18 => v = .bool false
        | 19 => v = .bool false
        | _ => True) (.inl rfl) (by kernel_rfl) (by kernel_rfl) (by kernel_rfl) (by kernel_rfl) (by kernel_rfl) (by kernel_rfl) (by decide) ?htlg1 ?hfrg1 (Only.refl _ _) (fun _ _ _ h k => h.trans k (fun _ hx => .inl hx)) ?stabg1 ?stepsg1 ?doneg1
      case htlg1 => simp only [List.drop_succ_cons, List.drop_zero]; rfl
      case hfrg1 => intro vals; simp only [putAll, dstAt, Act.put, List.getElem?_toArray, List.getElem?_cons_zero, List.getElem?_cons_succ, Option.bind_some, List.setIfInBounds_toArray, List.set_cons_zero, List.set_cons_succ]; rfl
      case stabg1 =>
        intro i v wa wb h
        try dsimp only
        split <;> first | exact id
      case stepsg1 =>
        refine ⟨?_, ?_, ?_, ?_, ?_, ?_, ?_, ?_, ?_, ?_, ?_, ?_, ?_, ?_, ?_, ?_, ?_, ?_, ?_, ?_, trivial⟩
        · intro vals wr hR hp K hK
          dsimp only at hK ⊢
          clear hp
          unfold RunsOp
          have tg := hR.blk (Blk.drew X13.out) (by simp)
          obtain ⟨k0, k1, kl⟩ := tg.facts2
          clear tg
          go_simp
          exact hK.out _ _ ⟨_, rfl, Only.refl _ _, rfl⟩
        · intro vals wr hR hp K hK
          dsimp only at hK ⊢
          obtain ⟨p0, -⟩ := hp
          replace p0 := p0 rfl
          dsimp only at p0
          rw [p0] at hK ⊢
          clear p0
          unfold RunsOp
          go_simp
          refine (D13.out _ (HX.out _ hR)).mono ?_
          rintro e w2 ⟨rfl, o2⟩
          exact hK.out _ _ ⟨_, rfl, o2, rfl⟩
        · intro vals wr hR hp K hK
          dsimp only at hK ⊢
          clear hp
          unfold RunsOp
          have tg := hR.blk (Blk.drew X13.out) (by simp)
          obtain ⟨k0, k1, kl⟩ := tg.facts2
          clear tg
          go_simp
          exact hK.out _ _ ⟨_, rfl, Only.refl _ _, rfl⟩
        · intro vals wr hR hp K hK
          dsimp only at hK ⊢
          obtain ⟨p2, -, -⟩ := hp
          replace p2 := p2 rfl
          dsimp only at p2
          rw [p2] at hK ⊢
          clear p2
          unfold RunsOp
          go_simp
          refine (D14.out _ (HX.out _ hR)).mono ?_
          rintro e w2 ⟨rfl, o2⟩
          exact hK.out _ _ ⟨_, rfl, o2, rfl⟩
        · intro vals wr hR hp K hK
          dsimp only at hK ⊢
          obtain ⟨p1, p3, -⟩ := hp
          replace p1 := p1 rfl
          replace p3 := p3 rfl
          dsimp only at p1 p3
          rw [p1, p3] at hK ⊢
          clear p1 p3
          unfold RunsOp
          go_simp
          exact hK.out _ _ ⟨_, rfl, Only.refl _ _, rfl⟩
        · intro vals wr hR hp K hK
          dsimp only at hK ⊢
          obtain ⟨p4, -, -⟩ := hp
          replace p4 := p4 rfl
          dsimp only at p4
          rw [p4] at hK ⊢
          clear p4
          unfold RunsOp
          go_simp
          exact hK.out _ _ ⟨_, rfl, Only.refl _ _, rfl⟩
        · intro vals wr hR hp K hK
          dsimp only at hK ⊢
          obtain ⟨p5, -⟩ := hp
          replace p5 := p5 rfl
          dsimp only at p5
          rw [p5] at hK ⊢
          clear p5
          unfold RunsOp
          have tg := hR.blk (Blk.drew X13.out) (by simp)
          obtain ⟨k0, k1, kl⟩ := tg.facts2
          clear tg
          go_simp
          exact hK.out _ _ ⟨_, rfl, Only.refl _ _, rfl⟩
        · intro vals wr hR hp K hK
          dsimp only at hK ⊢
          obtain ⟨p5, -⟩ := hp
          replace p5 := p5 rfl
          dsimp only at p5
          rw [p5] at hK ⊢
          clear p5
          unfold RunsOp
          have tg := hR.blk (Blk.drew X23.out) (by simp)
          obtain ⟨k0, k1, kl⟩ := tg.facts2
          clear tg
          go_simp
          exact hK.out _ _ ⟨_, rfl, Only.refl _ _, rfl⟩
        · intro vals wr hR hp K hK
          dsimp only at hK ⊢
          obtain ⟨p6, p7, p5, -, -⟩ := hp
          replace p6 := p6 rfl
          replace p7 := p7 rfl
          replace p5 := p5 rfl
          dsimp only at p6 p7 p5
          rw [p6, p7, p5] at hK ⊢
          clear p6 p7 p5
          unfold RunsOp
          go_simp
          refine (D15.out _ (HX.out _ hR)).mono ?_
          rintro e w2 ⟨rfl, o2⟩
          exact hK.out _ _ ⟨_, rfl, o2, rfl⟩
        · intro vals wr hR hp K hK
          dsimp only at hK ⊢
          obtain ⟨p5, -⟩ := hp
          replace p5 := p5 rfl
          dsimp only at p5
          rw [p5] at hK ⊢
          clear p5
          unfold RunsOp
          have tg := hR.blk (Blk.drew X13.out) (by simp)
          obtain ⟨k0, k1, kl⟩ := tg.facts2
          clear tg
          go_simp
          exact hK.out _ _ ⟨_, rfl, Only.refl _ _, rfl⟩
        · intro vals wr hR hp K hK
          dsimp only at hK ⊢
          obtain ⟨p5, -⟩ := hp
          replace p5 := p5 rfl
          dsimp only at p5
          rw [p5] at hK ⊢
          clear p5
          unfold RunsOp
          have tg := hR.blk (Blk.drew X23.out) (by simp)
          obtain ⟨k0, k1, kl⟩ := tg.facts2
          clear tg
          go_simp
          exact hK.out _ _ ⟨_, rfl, Only.refl _ _, rfl⟩
        · intro vals wr hR hp K hK
          dsimp only at hK ⊢
          obtain ⟨p9, p10, -, p5, -⟩ := hp
          replace p9 := p9 rfl
          replace p10 := p10 rfl
          replace p5 := p5 rfl
          dsimp only at p9 p10 p5
          rw [p9, p10, p5] at hK ⊢
          clear p9 p10 p5
          unfold RunsOp
          go_simp
          refine (D16.out _ (HX.out _ hR)).mono ?_
          rintro e w2 ⟨rfl, o2⟩
          exact hK.out _ _ ⟨_, rfl, o2, rfl⟩
        · intro vals wr hR hp K hK
          dsimp only at hK ⊢
          obtain ⟨p8, p11, p5, -⟩ := hp
          replace p8 := p8 rfl
          replace p11 := p11 rfl
          replace p5 := p5 rfl
          dsimp only at p8 p11 p5
          rw [p8, p11, p5] at hK ⊢
          clear p8 p11 p5
          unfold RunsOp
          go_simp
          exact hK.out _ _ ⟨_, rfl, Only.refl _ _, rfl⟩
        · intro vals wr hR hp K hK
          dsimp only at hK ⊢
          obtain ⟨p5, p12, -⟩ := hp
          replace p5 := p5 rfl
          replace p12 := p12 rfl
          dsimp only at p5 p12
          rw [p5, p12] at hK ⊢
          clear p5 p12
          unfold RunsOp
          go_simp
          exact hK.out _ _ ⟨_, rfl, Only.refl _ _, rfl⟩
        · intro vals wr hR hp K hK
          dsimp only at hK ⊢
          obtain ⟨p13, -, -⟩ := hp
          replace p13 := p13 rfl
          dsimp only at p13
          rw [p13] at hK ⊢
          clear p13
          unfold RunsOp
          go_simp
          exact hK.out _ _ ⟨_, rfl, Only.refl _ _, rfl⟩
        · intro vals wr hR hp K hK
          dsimp only at hK ⊢
          obtain ⟨p14, -⟩ := hp
          replace p14 := p14 rfl
          dsimp only at p14
          rw [p14] at hK ⊢
          clear p14
          unfold RunsOp
          have tg := hR.blk (Blk.drew X13.out) (by simp)
          obtain ⟨k0, k1, kl⟩ := tg.facts2
          clear tg
          go_simp
          exact hK.out _ _ ⟨_, rfl, Only.refl _ _, rfl⟩
        · intro vals wr hR hp K hK
          dsimp only at hK ⊢
          obtain ⟨p14, -⟩ := hp
          replace p14 := p14 rfl
          dsimp only at p14
          rw [p14] at hK ⊢
          clear p14
          unfold RunsOp
          have tg := hR.blk (Blk.drew X13.out) (by simp)
          obtain ⟨k0, k1, kl⟩ := tg.facts2
          clear tg
          go_simp
          exact hK.out _ _ ⟨_, rfl, Only.refl _ _, rfl⟩
        · intro vals wr hR hp K hK
          dsimp only at hK ⊢
          obtain ⟨p15, p16, p14, -, -⟩ := hp
          replace p15 := p15 rfl
          replace p16 := p16 rfl
          replace p14 := p14 rfl
          dsimp only at p15 p16 p14
          rw [p15, p16, p14] at hK ⊢
          clear p15 p16 p14
          unfold RunsOp
          go_simp
          refine (D15s.out _ (HX.out _ hR)).mono ?_
          rintro e w2 ⟨rfl, o2⟩
          exact hK.out _ _ ⟨_, rfl, o2, rfl⟩
        · intro vals wr hR hp K hK
          dsimp only at hK ⊢
          obtain ⟨p17, p14, -⟩ := hp
          replace p17 := p17 rfl
          replace p14 := p14 rfl
          dsimp only at p17 p14
          rw [p17, p14] at hK ⊢
          clear p17 p14
          unfold RunsOp
          go_simp
          exact hK.out _ _ ⟨_, rfl, Only.refl _ _, rfl⟩
        · intro vals wr hR hp K hK
          dsimp only at hK ⊢
          obtain ⟨p14, p18, -⟩ := hp
          replace p14 := p14 rfl
          replace p18 := p18 rfl
          dsimp only at p14 p18
          rw [p14, p18] at hK ⊢
          clear p14 p18
          unfold RunsOp
          go_simp
          exact hK.out _ _ ⟨_, rfl, Only.refl _ _, rfl⟩
      case doneg1 =>
        intro vals wd hR hF
        have f0 : vals 0 = .agg #[.int .i64 k1, .slice A1 l1.length cap1] := hF 0 (by decide)
        have f1 : (vals 1) = .bool q1 := hF 1 (by decide)
        have f2 : vals 2 = .agg #[.int .i64 k1, .slice A1 l1.length cap1] := hF 2 (by decide)
        have f3 : (vals 3) = .bool q1 := hF 3 (by decide)
        have f4 : vals 4 = .bool false := hF 4 (by decide)
        have f5 : vals 5 = .bool false := hF 5 (by decide)
        have f6 : vals 6 = .agg #[.int .i64 k1, .slice A1 l1.length cap1] := hF 6 (by decide)
        have f7 : vals 7 = .agg #[.int .i64 k2, .slice A2 l2.length cap2] := hF 7 (by decide)
        have f8 : (vals 8) = .bool sm := hF 8 (by decide)
        have f9 : vals 9 = .agg #[.int .i64 k1, .slice A1 l1.length cap1] := hF 9 (by decide)
        have f10 : vals 10 = .agg #[.int .i64 k2, .slice A2 l2.length cap2] := hF 10 (by decide)
        have f11 : (vals 11) = .bool sm := hF 11 (by decide)
        have f12 : vals 12 = .bool false := hF 12 (by decide)
        have f13 : vals 13 = .bool false := hF 13 (by decide)
        have f14 : vals 14 = .bool false := hF 14 (by decide)
        have f15 : vals 15 = .agg #[.int .i64 k1, .slice A1 l1.length cap1] := hF 15 (by decide)
        have f16 : vals 16 = .agg #[.int .i64 k1, .slice A1 l1.length cap1] := hF 16 (by decide)
        have f17 : (vals 17) = .bool true := hF 17 (by decide)
        have f18 : vals 18 = .bool false := hF 18 (by decide)
        have f19 : vals 19 = .bool false := hF 19 (by decide)
        rw [f0, f2, f4, f5, f6, f7, f9, f10, f12, f13, f14, f15, f16, f18, f19]
        clear f0 f2 f4 f5 f6 f7 f9 f10 f12 f13 f14 f15 f16 f18 f19
        rw [f1, f3, f8, f11, f17]
        clear f1 f3 f8 f11 f17
        have O9 := Lib.hid (HX.out _ hR)
        have X29 := Lib.hid (hR.blk (Blk.drew X23.out) (by simp))
        have X19 := Lib.hid (hR.blk (Blk.drew X13.out) (by simp))
        clear hR hF
        gi_wp2_with (fail)
        obtain ⟨b10, b11, bl1⟩ := X19.out.facts2
        obtain ⟨b20, b21, bl2⟩ := X29.out.facts2
        go_wp2_with (fail)
        refine (D14.out _ O9.out).mono ?_
        rintro r w10 ⟨rfl, o10⟩
        have O10 := Lib.hid (O9.out.trans o10 (by simp))
        have X110 := Lib.hid (o10.blk X19.out (by simp))
        have X210 := Lib.hid (o10.blk X29.out (by simp))
        clear o10 
        clear b10 b11 bl1 b20 b21 bl2
        obtain ⟨b10, b11, bl1⟩ := X110.out.facts2
        obtain ⟨b20, b21, bl2⟩ := X210.out.facts2
        cases q1 with
        | false =>
          have ht := HTX.out
          simp at ht
          subst ht
          clear HTX
          go_wp2_with (fail)
          refine (D17.out _ O10.out).mono ?_
          rintro r w11 ⟨rfl, o11⟩
          have O11 := Lib.hid (O10.out.trans o11 (by simp))
          have X111 := Lib.hid (o11.blk X110.out (by simp))
          have X211 := Lib.hid (o11.blk X210.out (by simp))
          clear o11 
          clear b10 b11 bl1 b20 b21 bl2
          unfold strV
          go_wp2_with (fail)
          go_ret
          exact ⟨rfl, O11.out⟩
        | true =>
          have ht := HTX.out
          simp at ht
          subst ht
          clear HTX
          go_wp2_with (fail)
          have HX := Lib.hid (fun W (o : Only [] w10.drew W) => O10.out.trans ((Only.refl [] w10).drew.trans o (by simp)) (by simp))
          clear b10 b11 bl1 b20 b21 bl2
          refine (wpIn_wide (n := 9)).1 ?_
          refine wpIn_region_relR 5 (Only []) (fr := ?frg2) (tl := ?tlg2) (fun iq v wv => match iq with
            | 0 => v = .agg #[.int .i64 k1, .slice A1 l1.length cap1]
            | 1 => v = strV tt
            | 2 => v = .agg #[.int .i64 k1, .slice A1 l1.length cap1]
            | 3 => v = strV tt
            | 4 => v = .bool true
            | _ => True) (.inl rfl) (by kernel_rfl) (by kernel_rfl) (by kernel_rfl) (by kernel_rfl) (by kernel_rfl) (by kernel_rfl) (by decide) ?htlg2 ?hfrg2 (Only.refl _ _) (fun _ _ _ h k => h.trans k (fun _ hx => .inl hx)) ?stabg2 ?stepsg2 ?doneg2
          case htlg2 => simp only [List.drop_succ_cons, List.drop_zero]; rfl
          case hfrg2 => intro vals; simp only [putAll, dstAt, Act.put, List.getElem?_toArray, List.getElem?_cons_zero, List.getElem?_cons_succ, Option.bind_some, List.setIfInBounds_toArray, List.set_cons_zero, List.set_cons_succ]; rfl
          case stabg2 =>
            intro i v wa wb h
            try dsimp only
            split <;> first | exact id
          case stepsg2 =>
            refine ⟨?_, ?_, ?_, ?_, ?_, trivial⟩
            · intro vals wr hR hp K hK
              dsimp only at hK ⊢
              clear hp
              unfold RunsOp
              have tg := hR.blk (Blk.drew X110.out) (by simp)
              obtain ⟨k0, k1, kl⟩ := tg.facts2
              clear tg
              go_simp
              exact hK.out _ _ ⟨_, rfl, Only.refl _ _, rfl⟩
            · intro vals wr hR hp K hK
              dsimp only at hK ⊢
              obtain ⟨p0, -⟩ := hp
              replace p0 := p0 rfl
              dsimp only at p0
              rw [p0] at hK ⊢
              clear p0
              unfold RunsOp
              go_simp
              refine (D17.out _ (HX.out _ hR)).mono ?_
              rintro e w2 ⟨rfl, o2⟩
              exact hK.out _ _ ⟨_, rfl, o2, rfl⟩
            · intro vals wr hR hp K hK
              dsimp only at hK ⊢
              clear hp
              unfold RunsOp
              have tg := hR.blk (Blk.drew X110.out) (by simp)
              obtain ⟨k0, k1, kl⟩ := tg.facts2
              clear tg
              go_simp
              exact hK.out _ _ ⟨_, rfl, Only.refl _ _, rfl⟩
            · intro vals wr hR hp K hK
              dsimp only at hK ⊢
              obtain ⟨p2, -, -⟩ := hp
              replace p2 := p2 rfl
              dsimp only at p2
              rw [p2] at hK ⊢
              clear p2
              unfold RunsOp
              go_simp
              refine (D18.out _ (HX.out _ hR) (by first | rfl | trivial)).mono ?_
              rintro e w2 ⟨rfl, o2⟩
              exact hK.out _ _ ⟨_, rfl, o2, rfl⟩
            · intro vals wr hR hp K hK
              dsimp only at hK ⊢
              obtain ⟨p1, p3, -⟩ := hp
              replace p1 := p1 rfl
              replace p3 := p3 rfl
              dsimp only at p1 p3
              rw [p1, p3] at hK ⊢
              clear p1 p3
              unfold RunsOp
              unfold strV
              go_simp
              exact hK.out _ _ ⟨_, rfl, Only.refl _ _, rfl⟩
          case doneg2 =>
            intro vals wd hR hF
            have f0 : vals 0 = .agg #[.int .i64 k1, .slice A1 l1.length cap1] := hF 0 (by decide)
            have f1 : (vals 1) = strV tt := hF 1 (by decide)
            have f2 : vals 2 = .agg #[.int .i64 k1, .slice A1 l1.length cap1] := hF 2 (by decide)
            have f3 : (vals 3) = strV tt := hF 3 (by decide)
            have f4 : vals 4 = .bool true := hF 4 (by decide)
            rw [f0, f2, f4]
            clear f0 f2 f4
            rw [f1, f3]
            clear f1 f3
            have O9 := Lib.hid (HX.out _ hR)
            clear hR hF
            gi_wp2_with (fail)
            go_wp2_with (fail)
            go_ret
            exact ⟨rfl, O9.out⟩
end Go.Proofs.YtgpljjejfebhoaaDoor
