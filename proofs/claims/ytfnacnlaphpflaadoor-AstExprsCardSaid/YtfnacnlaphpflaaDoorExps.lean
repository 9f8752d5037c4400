/- AstExprs. -/
import Derived.Test.YtfnacnlaphpflaaDoorNsts
import Derived.Test.YtfnacnlaphpflaaDoorRRj
namespace Go.Proofs.YtfnacnlaphpflaaDoor
open Go.RowKit Go.Kx
set_option maxRecDepth 100000

set_option maxHeartbeats 4000000 in
theorem exprs_any {ea eb : Ex} {w : World} (hLa : Lies w ea) (hLb : Lies w eb) (hW : WordsIs w) : Calls Tryd.prog 6 #[ea.val, eb.val] w fun r w' => r = .returned (.bool true) ∧ Only [] w w' := by
  have hrga := room_range ea.tr 40 600 (by omega)
  have hrgb := room_range eb.tr 40 600 (by omega)
  have C1 := Lib.hid (fun W (o : Only [] w W) => awake_any (hW.keep o))
  have CXa := Lib.hid (fun W (o : Only [] w W) => expr_any ea W (hLa.keep o) 40 600 (by omega) (by omega) (by omega))
  have CXb := Lib.hid (fun W (o : Only [] w W) => expr_any eb W (hLb.keep o) 40 600 (by omega) (by omega) (by omega))
  have C19 := Lib.hid (fun W (o : Only [] w W) => pnest_any (hLa.keep o))
  have C23 := Lib.hid (fun W (o : Only [] w W) => refnest_any (hLa.keep o))
  have C20 := Lib.hid (fun W (o : Only [] w W) => pright_any (hLa.keep o) (hW.keep o))
  have C22 := Lib.hid (fun W (o : Only [] w W) => rr_ok (hLa.keep o))
  have C21 := Lib.hid (fun W (o : Only [] w W) => same_any ea eb W (hLa.keep o) (hLb.keep o))
  have C14 := Lib.hid (fun W (o : Only [] w W) => rsame_any ea eb W (hLa.keep o) (hLb.keep o))
  obtain ⟨za, hza⟩ : ∃ z, ea.tr.room 40 600 = z := ⟨_, rfl⟩
  rw [hza] at CXa hrga
  obtain ⟨zb, hzb⟩ : ∃ z, eb.tr.room 40 600 = z := ⟨_, rfl⟩
  rw [hzb] at CXb hrgb
  obtain ⟨dp, hdp⟩ : ∃ dp, min ea.tr.depth 1001 = dp := ⟨_, rfl⟩
  rw [hdp] at C19 C23
  obtain ⟨ok, hok⟩ : ∃ ok, ea.tr.ok = ok := ⟨_, rfl⟩
  rw [hok] at C20 C22
  obtain ⟨sm, hsm⟩ : ∃ sm, ea.tr.same eb.tr = sm := ⟨_, rfl⟩
  rw [hsm] at C21 C14
  have hdp2 : dp ≤ 1001 := by omega
  clear hLa hLb hW hza hzb hdp hok hsm
  obtain ⟨op, n, nm, sb, A, cap, args⟩ := ea
  obtain ⟨op2, n2, nm2, sb2, A2, cap2, args2⟩ := eb
  have hbx := Blk.new w 24 #[.int .i64 op, .int .i64 n, .string nm, .string sb, .slice A args.length cap]
  have o0 : Only [] w (w.alloc (.cells #[.int .i64 op, .int .i64 n, .string nm, .string sb, .slice A args.length cap] 24)) := (Only.refl _ _).alloc _
  have hs1 : (w.alloc (.cells #[.int .i64 op, .int .i64 n, .string nm, .string sb, .slice A args.length cap] 24)).heap.size = w.heap.size + 1 := by simp
  have hby := Blk.new (w.alloc (.cells #[.int .i64 op, .int .i64 n, .string nm, .string sb, .slice A args.length cap] 24)) 24 #[.int .i64 op2, .int .i64 n2, .string nm2, .string sb2, .slice A2 args2.length cap2]
  rw [hs1] at hby
  have o1 : Only [] (w.alloc (.cells #[.int .i64 op, .int .i64 n, .string nm, .string sb, .slice A args.length cap] 24)) ((w.alloc (.cells #[.int .i64 op, .int .i64 n, .string nm, .string sb, .slice A args.length cap] 24)).alloc (.cells #[.int .i64 op2, .int .i64 n2, .string nm2, .string sb2, .slice A2 args2.length cap2] 24)) := (Only.refl _ _).alloc _
  have HBX := Lib.hid (o1.blk hbx (by simp))
  have HBY := Lib.hid hby
  have HO := Lib.hid (o0.trans o1 (by simp))
  clear hbx hby o0 o1 hs1
  show Calls Tryd.prog 6 #[.agg #[.int .i64 op, .int .i64 n, .string nm, .string sb, .slice A args.length cap], .agg #[.int .i64 op2, .int .i64 n2, .string nm2, .string sb2, .slice A2 args2.length cap2]] w _
  go_enter Tryd.func6, Tryd.ntmps6
  go_wp2_with (fail)
  refine (C1.out _ HO.out).mono ?_
  rintro r w1 ⟨rfl, o1⟩
  have O1 := Lib.hid (HO.out.trans o1 (by simp))
  have X1 := Lib.hid (o1.blk HBX.out (by simp))
  have Y1 := Lib.hid (o1.blk HBY.out (by simp))
  clear o1
  obtain ⟨b0, b1, b2, b3, b4, bl⟩ := X1.out.facts5
  obtain ⟨d0, d1, d2, d3, d4, dl⟩ := Y1.out.facts5
  go_wp2_with (fail)
  refine (CXa.out _ O1.out).mono ?_
  rintro r w2 ⟨rfl, o2⟩
  have O2 := Lib.hid (O1.out.trans o2 (by simp))
  have X2 := Lib.hid (o2.blk X1.out (by simp))
  have Y2 := Lib.hid (o2.blk Y1.out (by simp))
  clear o2 b0 b1 b2 b3 b4 bl d0 d1 d2 d3 d4 dl
  obtain ⟨b0, b1, b2, b3, b4, bl⟩ := X2.out.facts5
  obtain ⟨d0, d1, d2, d3, d4, dl⟩ := Y2.out.facts5
  by_cases hza : za < 0
  · go_wp2_with (fail)
    refine (C1.out _ O2.out).mono ?_
    rintro r w3 ⟨rfl, o3⟩
    have O3 := Lib.hid (O2.out.trans o3 (by simp))
    clear o3
    go_wp2_with (fail)
    go_ret
    exact ⟨rfl, O3.out⟩
  · have hza0 : 0 ≤ za := by omega
    go_wp2_with (fail)
    refine (CXb.out _ O2.out).mono ?_
    rintro r w3 ⟨rfl, o3⟩
    have O3 := Lib.hid (O2.out.trans o3 (by simp))
    have X3 := Lib.hid (o3.blk X2.out (by simp))
    have Y3 := Lib.hid (o3.blk Y2.out (by simp))
    clear o3 b0 b1 b2 b3 b4 bl d0 d1 d2 d3 d4 dl
    by_cases hzb : zb < 0
    · go_wp2_with (fail)
      refine (C1.out _ O3.out).mono ?_
      rintro r w4 ⟨rfl, o4⟩
      have O4 := Lib.hid (O3.out.trans o4 (by simp))
      clear o4
      go_wp2_with (fail)
      go_ret
      exact ⟨rfl, O4.out⟩
    · have hzb0 : 0 ≤ zb := by omega
      have HX := Lib.hid (fun W (o : Only [] w3.drew W) => O3.out.trans ((Only.refl [] w3).drew.trans o (by simp)) (by simp))
      go_wp2_with (fail)
      clear hza hzb hza0 hzb0 hrga hrgb
      refine (wpIn_wide (n := 9)).1 ?_
      refine wpIn_region_relR 22 (Only []) (fr := ?frg) (tl := ?tlg) (fun iq v wv => match iq with
        | 0 => v = .agg #[.int .i64 op, .int .i64 n, .string nm, .string sb, .slice A args.length cap]
        | 1 => v = .bool ok
        | 2 => v = .agg #[.int .i64 op, .int .i64 n, .string nm, .string sb, .slice A args.length cap]
        | 3 => v = .bool ok
        | 4 => v = .bool true
        | 5 => v = .bool true
        | 6 => v = .agg #[.int .i64 op, .int .i64 n, .string nm, .string sb, .slice A args.length cap]
        | 7 => v = .int .i64 (dp : Nat)
        | 8 => v = .agg #[.int .i64 op, .int .i64 n, .string nm, .string sb, .slice A args.length cap]
        | 9 => v = .int .i64 (dp : Nat)
        | 10 => v = .bool true
        | 11 => v = .bool true
        | 12 => v = .bool true
        | 13 => v = .agg #[.int .i64 op, .int .i64 n, .string nm, .string sb, .slice A args.length cap]
        | 14 => v = .agg #[.int .i64 op2, .int .i64 n2, .string nm2, .string sb2, .slice A2 args2.length cap2]
        | 15 => v = .bool sm
        | 16 => v = .agg #[.int .i64 op, .int .i64 n, .string nm, .string sb, .slice A args.length cap]
        | 17 => v = .agg #[.int .i64 op2, .int .i64 n2, .string nm2, .string sb2, .slice A2 args2.length cap2]
        | 18 => v = .bool sm
        | 19 => v = .bool true
        | 20 => v = .bool true
        | 21 => v = .bool true
        | _ => True) (.inl rfl) (by kernel_rfl) (by kernel_rfl) (by kernel_rfl) (by kernel_rfl) (by kernel_rfl) (by kernel_rfl) (by decide) ?htlg ?hfrg (Only.refl _ _) (fun _ _ _ h k => h.trans k (fun _ hx => .inl hx)) ?stabg ?stepsg ?doneg
      case htlg => simp only [List.drop_succ_cons, List.drop_zero]; rfl
      case hfrg => intro vals; simp only [putAll, dstAt, Act.put, List.getElem?_toArray, List.getElem?_cons_zero, List.getElem?_cons_succ, Option.bind_some, List.setIfInBounds_toArray, List.set_cons_zero, List.set_cons_succ]; rfl
      case stabg =>
        intro i v wa wb h
        try dsimp only
        split <;> first | exact id
      case stepsg =>
        refine ⟨?_, ?_, ?_, ?_, ?_, ?_, ?_, ?_, ?_, ?_, ?_, ?_, ?_, ?_, ?_, ?_, ?_, ?_, ?_, ?_, ?_, ?_, trivial⟩
        · intro vals wr hR hp K hK
          dsimp only at hK ⊢
          clear hp
          unfold RunsOp
          have tg := hR.blk (Blk.drew X3.out) (by simp)
          obtain ⟨k0, k1, k2, k3, k4, kl⟩ := tg.facts5
          clear tg
          go_simp
          exact hK.out _ _ ⟨_, rfl, Only.refl _ _, rfl⟩
        · intro vals wr hR hp K hK
          dsimp only at hK ⊢
          obtain ⟨p0, -⟩ := hp
          replace p0 := p0 rfl
          dsimp only at p0
          rw [p0] at hK ⊢
          clear p0
          unfold RunsOp
          go_simp
          refine (C20.out _ (HX.out _ hR)).mono ?_
          rintro e w2 ⟨rfl, o2⟩
          exact hK.out _ _ ⟨_, rfl, o2, rfl⟩
        · intro vals wr hR hp K hK
          dsimp only at hK ⊢
          clear hp
          unfold RunsOp
          have tg := hR.blk (Blk.drew X3.out) (by simp)
          obtain ⟨k0, k1, k2, k3, k4, kl⟩ := tg.facts5
          clear tg
          go_simp
          exact hK.out _ _ ⟨_, rfl, Only.refl _ _, rfl⟩
        · intro vals wr hR hp K hK
          dsimp only at hK ⊢
          obtain ⟨p2, -, -⟩ := hp
          replace p2 := p2 rfl
          dsimp only at p2
          rw [p2] at hK ⊢
          clear p2
          unfold RunsOp
          go_simp
          refine (C22.out _ (HX.out _ hR)).mono ?_
          rintro e w2 ⟨rfl, o2⟩
          exact hK.out _ _ ⟨_, rfl, o2, rfl⟩
        · intro vals wr hR hp K hK
          dsimp only at hK ⊢
          obtain ⟨p1, p3, -⟩ := hp
          replace p1 := p1 rfl
          replace p3 := p3 rfl
          dsimp only at p1 p3
          rw [p1, p3] at hK ⊢
          clear p1 p3
          unfold RunsOp
          go_simp
          exact hK.out _ _ ⟨_, rfl, Only.refl _ _, rfl⟩
        · intro vals wr hR hp K hK
          dsimp only at hK ⊢
          obtain ⟨p4, -, -⟩ := hp
          replace p4 := p4 rfl
          dsimp only at p4
          rw [p4] at hK ⊢
          clear p4
          unfold RunsOp
          go_simp
          exact hK.out _ _ ⟨_, rfl, Only.refl _ _, rfl⟩
        · intro vals wr hR hp K hK
          dsimp only at hK ⊢
          obtain ⟨p5, -⟩ := hp
          replace p5 := p5 rfl
          dsimp only at p5
          rw [p5] at hK ⊢
          clear p5
          unfold RunsOp
          have tg := hR.blk (Blk.drew X3.out) (by simp)
          obtain ⟨k0, k1, k2, k3, k4, kl⟩ := tg.facts5
          clear tg
          go_simp
          exact hK.out _ _ ⟨_, rfl, Only.refl _ _, rfl⟩
        · intro vals wr hR hp K hK
          dsimp only at hK ⊢
          obtain ⟨p6, p5, -, -⟩ := hp
          replace p6 := p6 rfl
          replace p5 := p5 rfl
          dsimp only at p6 p5
          rw [p6, p5] at hK ⊢
          clear p6 p5
          unfold RunsOp
          go_simp
          refine (C19.out _ (HX.out _ hR)).mono ?_
          rintro e w2 ⟨rfl, o2⟩
          exact hK.out _ _ ⟨_, rfl, o2, rfl⟩
        · intro vals wr hR hp K hK
          dsimp only at hK ⊢
          obtain ⟨p5, -⟩ := hp
          replace p5 := p5 rfl
          dsimp only at p5
          rw [p5] at hK ⊢
          clear p5
          unfold RunsOp
          have tg := hR.blk (Blk.drew X3.out) (by simp)
          obtain ⟨k0, k1, k2, k3, k4, kl⟩ := tg.facts5
          clear tg
          go_simp
          exact hK.out _ _ ⟨_, rfl, Only.refl _ _, rfl⟩
        · intro vals wr hR hp K hK
          dsimp only at hK ⊢
          obtain ⟨p8, -, p5, -⟩ := hp
          replace p8 := p8 rfl
          replace p5 := p5 rfl
          dsimp only at p8 p5
          rw [p8, p5] at hK ⊢
          clear p8 p5
          unfold RunsOp
          go_simp
          refine (C23.out _ (HX.out _ hR)).mono ?_
          rintro e w2 ⟨rfl, o2⟩
          exact hK.out _ _ ⟨_, rfl, o2, rfl⟩
        · intro vals wr hR hp K hK
          dsimp only at hK ⊢
          obtain ⟨p7, p9, p5, -⟩ := hp
          replace p7 := p7 rfl
          replace p9 := p9 rfl
          replace p5 := p5 rfl
          dsimp only at p7 p9 p5
          rw [p7, p9, p5] at hK ⊢
          clear p7 p9 p5
          unfold RunsOp
          go_simp
          exact hK.out _ _ ⟨_, rfl, Only.refl _ _, rfl⟩
        · intro vals wr hR hp K hK
          dsimp only at hK ⊢
          obtain ⟨p5, p10, -⟩ := hp
          replace p5 := p5 rfl
          replace p10 := p10 rfl
          dsimp only at p5 p10
          rw [p5, p10] at hK ⊢
          clear p5 p10
          unfold RunsOp
          go_simp
          exact hK.out _ _ ⟨_, rfl, Only.refl _ _, rfl⟩
        · intro vals wr hR hp K hK
          dsimp only at hK ⊢
          obtain ⟨p11, -, -⟩ := hp
          replace p11 := p11 rfl
          dsimp only at p11
          rw [p11] at hK ⊢
          clear p11
          unfold RunsOp
          go_simp
          exact hK.out _ _ ⟨_, rfl, Only.refl _ _, rfl⟩
        · intro vals wr hR hp K hK
          dsimp only at hK ⊢
          obtain ⟨p12, -⟩ := hp
          replace p12 := p12 rfl
          dsimp only at p12
          rw [p12] at hK ⊢
          clear p12
          unfold RunsOp
          have tg := hR.blk (Blk.drew X3.out) (by simp)
          obtain ⟨k0, k1, k2, k3, k4, kl⟩ := tg.facts5
          clear tg
          go_simp
          exact hK.out _ _ ⟨_, rfl, Only.refl _ _, rfl⟩
        · intro vals wr hR hp K hK
          dsimp only at hK ⊢
          obtain ⟨p12, -⟩ := hp
          replace p12 := p12 rfl
          dsimp only at p12
          rw [p12] at hK ⊢
          clear p12
          unfold RunsOp
          have tg := hR.blk (Blk.drew Y3.out) (by simp)
          obtain ⟨k0, k1, k2, k3, k4, kl⟩ := tg.facts5
          clear tg
          go_simp
          exact hK.out _ _ ⟨_, rfl, Only.refl _ _, rfl⟩
        · intro vals wr hR hp K hK
          dsimp only at hK ⊢
          obtain ⟨p13, p14, p12, -, -⟩ := hp
          replace p13 := p13 rfl
          replace p14 := p14 rfl
          replace p12 := p12 rfl
          dsimp only at p13 p14 p12
          rw [p13, p14, p12] at hK ⊢
          clear p13 p14 p12
          unfold RunsOp
          go_simp
          refine (C21.out _ (HX.out _ hR)).mono ?_
          rintro e w2 ⟨rfl, o2⟩
          exact hK.out _ _ ⟨_, rfl, o2, rfl⟩
        · intro vals wr hR hp K hK
          dsimp only at hK ⊢
          obtain ⟨p12, -⟩ := hp
          replace p12 := p12 rfl
          dsimp only at p12
          rw [p12] at hK ⊢
          clear p12
          unfold RunsOp
          have tg := hR.blk (Blk.drew X3.out) (by simp)
          obtain ⟨k0, k1, k2, k3, k4, kl⟩ := tg.facts5
          clear tg
          go_simp
          exact hK.out _ _ ⟨_, rfl, Only.refl _ _, rfl⟩
        · intro vals wr hR hp K hK
          dsimp only at hK ⊢
          obtain ⟨p12, -⟩ := hp
          replace p12 := p12 rfl
          dsimp only at p12
          rw [p12] at hK ⊢
          clear p12
          unfold RunsOp
          have tg := hR.blk (Blk.drew Y3.out) (by simp)
          obtain ⟨k0, k1, k2, k3, k4, kl⟩ := tg.facts5
          clear tg
          go_simp
          exact hK.out _ _ ⟨_, rfl, Only.refl _ _, rfl⟩
        · intro vals wr hR hp K hK
          dsimp only at hK ⊢
          obtain ⟨p16, p17, -, p12, -⟩ := hp
          replace p16 := p16 rfl
          replace p17 := p17 rfl
          replace p12 := p12 rfl
          dsimp only at p16 p17 p12
          rw [p16, p17, p12] at hK ⊢
          clear p16 p17 p12
          unfold RunsOp
          go_simp
          refine (C14.out _ (HX.out _ hR)).mono ?_
          rintro e w2 ⟨rfl, o2⟩
          exact hK.out _ _ ⟨_, rfl, o2, rfl⟩
        · intro vals wr hR hp K hK
          dsimp only at hK ⊢
          obtain ⟨p15, p18, p12, -⟩ := hp
          replace p15 := p15 rfl
          replace p18 := p18 rfl
          replace p12 := p12 rfl
          dsimp only at p15 p18 p12
          rw [p15, p18, p12] at hK ⊢
          clear p15 p18 p12
          unfold RunsOp
          go_simp
          exact hK.out _ _ ⟨_, rfl, Only.refl _ _, rfl⟩
        · intro vals wr hR hp K hK
          dsimp only at hK ⊢
          obtain ⟨p12, p19, -⟩ := hp
          replace p12 := p12 rfl
          replace p19 := p19 rfl
          dsimp only at p12 p19
          rw [p12, p19] at hK ⊢
          clear p12 p19
          unfold RunsOp
          go_simp
          exact hK.out _ _ ⟨_, rfl, Only.refl _ _, rfl⟩
        · intro vals wr hR hp K hK
          dsimp only at hK ⊢
          obtain ⟨p20, -, -, -, -, -, -, -, -, -, -, -, -, -, -, -, -, -, -, -, -, -, -, -⟩ := hp
          replace p20 := p20 rfl
          dsimp only at p20
          rw [p20] at hK ⊢
          clear p20
          unfold RunsOp
          go_simp
          exact hK.out _ _ ⟨_, rfl, Only.refl _ _, rfl⟩
      case doneg =>
        intro vals wd hR hF
        have f0 : vals 0 = .agg #[.int .i64 op, .int .i64 n, .string nm, .string sb, .slice A args.length cap] := hF 0 (by decide)
        have f1 : (vals 1) = .bool ok := hF 1 (by decide)
        have f2 : vals 2 = .agg #[.int .i64 op, .int .i64 n, .string nm, .string sb, .slice A args.length cap] := hF 2 (by decide)
        have f3 : (vals 3) = .bool ok := hF 3 (by decide)
        have f4 : vals 4 = .bool true := hF 4 (by decide)
        have f5 : vals 5 = .bool true := hF 5 (by decide)
        have f6 : vals 6 = .agg #[.int .i64 op, .int .i64 n, .string nm, .string sb, .slice A args.length cap] := hF 6 (by decide)
        have f7 : (vals 7) = .int .i64 (dp : Nat) := hF 7 (by decide)
        have f8 : vals 8 = .agg #[.int .i64 op, .int .i64 n, .string nm, .string sb, .slice A args.length cap] := hF 8 (by decide)
        have f9 : (vals 9) = .int .i64 (dp : Nat) := hF 9 (by decide)
        have f10 : vals 10 = .bool true := hF 10 (by decide)
        have f11 : vals 11 = .bool true := hF 11 (by decide)
        have f12 : vals 12 = .bool true := hF 12 (by decide)
        have f13 : vals 13 = .agg #[.int .i64 op, .int .i64 n, .string nm, .string sb, .slice A args.length cap] := hF 13 (by decide)
        have f14 : vals 14 = .agg #[.int .i64 op2, .int .i64 n2, .string nm2, .string sb2, .slice A2 args2.length cap2] := hF 14 (by decide)
        have f15 : (vals 15) = .bool sm := hF 15 (by decide)
        have f16 : vals 16 = .agg #[.int .i64 op, .int .i64 n, .string nm, .string sb, .slice A args.length cap] := hF 16 (by decide)
        have f17 : vals 17 = .agg #[.int .i64 op2, .int .i64 n2, .string nm2, .string sb2, .slice A2 args2.length cap2] := hF 17 (by decide)
        have f18 : (vals 18) = .bool sm := hF 18 (by decide)
        have f19 : vals 19 = .bool true := hF 19 (by decide)
        have f20 : vals 20 = .bool true := hF 20 (by decide)
        have f21 : vals 21 = .bool true := hF 21 (by decide)
        rw [f0, f2, f4, f5, f6, f8, f10, f11, f12, f13, f14, f16, f17, f19, f20, f21]
        clear f0 f2 f4 f5 f6 f8 f10 f11 f12 f13 f14 f16 f17 f19 f20 f21
        rw [f1, f3, f7, f9, f15, f18]
        clear f1 f3 f7 f9 f15 f18
        have O9 := Lib.hid (HX.out _ hR)
        clear hR hF
        gi_wp2_with (fail)
        go_wp2_with (fail)
        go_ret
        exact ⟨rfl, O9.out⟩
end Go.Proofs.YtfnacnlaphpflaaDoor
