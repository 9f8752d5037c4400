/- ValueRights, walked. -/
import Derived.Test.YtgpljjejfebhoaaDoorCmps
import Derived.Test.YtgpljjejfebhoaaDoorRTypeOf
import Derived.Test.YtgpljjejfebhoaaDoorRText
import Derived.Test.YtgpljjejfebhoaaDoorTypes
namespace Go.Proofs.YtgpljjejfebhoaaDoor
open Go.RowKit Go.Kx Go.Val
set_option maxRecDepth 100000
theorem typ_yes {t : Vt} (h : t.ok 3 = true) : t.typ = t.ty := by unfold Vt.typ; rw [if_pos h]
theorem typ_no {t : Vt} (h : t.ok 3 = false) : t.typ = .mk 0 [] := by unfold Vt.typ; rw [if_neg (by rw [h]; decide)]
theorem text_no {t : Vt} (h : t.ok 3 = false) : t.text = [] := by unfold Vt.text; rw [if_neg (by rw [h]; decide)]
theorem text_yes {t : Vt} (h : t.ok 3 = true) : t.text = t.txt := by unfold Vt.text; rw [if_pos h]
theorem none_lies (W : World) : LiesT W (.mk 0 none 0 []) := .mk ⟨by omega, by omega⟩ (by simp) (fun i e h => by simp at h) (fun e h => by simp at h)
set_option maxHeartbeats 4000000 in
theorem rights_any {e1 : Vx} {w : World} (hL1 : LiesV w e1) (hT : Tab10 w) : Calls Tryd.prog 5 #[e1.val] w fun r w' => r = .returned (.bool true) ∧ Only [] w w' := by
  have C1 := Lib.hid (fun W (o : Only [] w W) => awake_any (hT.only o))
  have CF := Lib.hid (fun W (o : Only [] w W) => few_lit (l := [e1]) (w := W) (fun e he => by simp at he; rcases he with rfl; exact hL1.keep o) (by simp))
  have D20 := Lib.hid (fun W (o : Only [] w W) => refrightV e1 W (hL1.keep o) 3 (by omega))
  have D21 := Lib.hid (fun W (o : Only [] w W) => topV (hL1.keep o))
  have HSM := Lib.hid (show fewB [e1] = true → e1.sm = true from fun h => (few_sm h e1 (by simp)).1)
  have D23 := Lib.hid (fun W (o : Only [] w W) (h : fewB [e1] = true) => (copyV e1 W (hL1.keep o) (HSM.out h)).mono fun r w' ⟨e', h1, h2, h3⟩ => (show ∃ yk yn ys yA ycap yl, r = Ending.returned (.agg #[.int .i64 yk, .int .i64 yn, .string ys, .slice yA (List.length yl) ycap]) ∧ Hid (CpV W.heap.size w' e1.tr (.mk yk yn ys yA ycap yl)) ∧ Only [] W w' from by
    obtain ⟨yk, yn, ys, yA, ycap, yl⟩ := e'
    exact ⟨yk, yn, ys, yA, ycap, yl, h1, Lib.hid h2, h3⟩))
  have D22 := Lib.hid (fun W (o : Only [] w W) B (y : Vx) (h : CpV B W e1.tr y) => (show Calls Tryd.prog 22 #[y.val, e1.val] W fun r w' => r = .returned (.bool true) ∧ Only [] W w' from (refsameV y e1 W h.lies (hL1.keep o)).mono (by rintro r w' ⟨rfl, o⟩; exact ⟨by rw [h.tr, (Vt.same_iff _ _).2 rfl], o⟩)))
  have D24 := Lib.hid (fun W (o : Only [] w W) (h : fewB [e1] = true) => (totypeV (hL1.keep o) (HSM.out h)).mono fun r w' ⟨e', h1, h2, h3⟩ => (show ∃ yk yA ycap yl, r = Ending.returned (.agg #[.int .i64 yk, .slice yA (List.length yl) ycap]) ∧ Hid (CpT W.heap.size w' e1.tr.typ (.mk yk yA ycap yl)) ∧ Only [] W w' from by
    obtain ⟨yk, yA, ycap, yl⟩ := e'
    exact ⟨yk, yA, ycap, yl, h1, Lib.hid h2, h3⟩))
  have D26 := Lib.hid (fun W (o : Only [] w W) (h : fewB [e1] = true) => (rtypeofV e1 W (hL1.keep o) (HSM.out h)).mono fun r w' ⟨e', h1, h2, h3⟩ => (show ∃ yk yA ycap yl, r = Ending.returned (.agg #[.int .i64 yk, .slice yA (List.length yl) ycap]) ∧ Hid (CpT W.heap.size w' e1.tr.ty (.mk yk yA ycap yl)) ∧ Only [] W w' from by
    obtain ⟨yk, yA, ycap, yl⟩ := e'
    exact ⟨yk, yA, ycap, yl, h1, Lib.hid h2, h3⟩))
  have D15 := Lib.hid (fun W B yk yA ycap yl (hk : e1.tr.ok 3 = false) (h : CpT B W e1.tr.typ (.mk yk yA ycap yl)) => (show Calls Tryd.prog 15 #[.agg #[.int .i64 yk, .slice yA (List.length yl) ycap], .agg #[.int .i64 0, .slice none 0 0]] W fun r w' => r = .returned (.bool true) ∧ Only [] W w' from (sameT (.mk yk yA ycap yl) (.mk 0 none 0 []) W h.lies (none_lies W)).mono (by rintro r w' ⟨rfl, o⟩; exact ⟨by rw [h.tr, typ_no hk, (Tt.same_iff _ _).2 (by rw [Tx.tr_mk]; rfl)], o⟩)))
  have D16 := Lib.hid (fun W B B2 yk yA ycap yl zk zA zcap zl (hk : e1.tr.ok 3 = true) (h : CpT B W e1.tr.typ (.mk yk yA ycap yl)) (h2 : CpT B2 W e1.tr.ty (.mk zk zA zcap zl)) => (show Calls Tryd.prog 16 #[.agg #[.int .i64 yk, .slice yA (List.length yl) ycap], .agg #[.int .i64 zk, .slice zA (List.length zl) zcap]] W fun r w' => r = .returned (.bool true) ∧ Only [] W w' from (refsameT (.mk yk yA ycap yl) (.mk zk zA zcap zl) W h.lies h2.lies).mono (by rintro r w' ⟨rfl, o⟩; exact ⟨by rw [h.tr, h2.tr, typ_yes hk, (Tt.same_iff _ _).2 rfl], o⟩)))
  have D13 := Lib.hid (fun W B yk yA ycap yl (hk : e1.tr.ok 3 = true) (h : CpT B W e1.tr.typ (.mk yk yA ycap yl)) => (show Calls Tryd.prog 13 #[.agg #[.int .i64 yk, .slice yA (List.length yl) ycap]] W fun r w' => r = .returned (.bool true) ∧ Only [] W w' from (topT h.lies).mono (by rintro r w' ⟨rfl, o⟩; exact ⟨by rw [h.tr, typ_yes hk, ty_ok _ _ hk], o⟩)))
  have D25 := Lib.hid (fun W (o : Only [] w W) => totextV (hL1.keep o) (hT.only o))
  have D27 := Lib.hid (fun W (o : Only [] w W) (h : e1.tr.ok 3 = true) => rtextV e1 W (hL1.keep o) 3 (by omega) h)
  have HTN := Lib.hid (fun (h : e1.tr.ok 3 = false) => text_no h)
  have HTY := Lib.hid (fun (h : e1.tr.ok 3 = true) => text_yes h)
  obtain ⟨fb, hfb⟩ : ∃ z, fewB [e1] = z := ⟨_, rfl⟩
  obtain ⟨q1, hq1⟩ : ∃ z, e1.tr.ok 3 = z := ⟨_, rfl⟩
  obtain ⟨tt, htt⟩ : ∃ z, e1.tr.text = z := ⟨_, rfl⟩
  obtain ⟨tx, htx⟩ : ∃ z, e1.tr.txt = z := ⟨_, rfl⟩
  obtain ⟨tp, htp⟩ : ∃ z, e1.tr.typ = z := ⟨_, rfl⟩
  obtain ⟨ty, hty⟩ : ∃ z, e1.tr.ty = z := ⟨_, rfl⟩
  rw [hfb] at CF D23 D24 D26
  rw [hq1] at D20 D21 D27 D15 D16 D13 HTN HTY
  rw [htt] at D25 HTN HTY
  rw [htx] at D27 HTY
  rw [htp] at D24 D15 D16 D13
  rw [hty] at D26 D16
  obtain ⟨tr, htr⟩ : ∃ z, e1.tr = z := ⟨_, rfl⟩
  rw [htr] at D23 D22
  clear hL1 hT hfb hq1 htt htx htp hty htr HSM
  obtain ⟨k1, n1, s1, A1, cap1, l1⟩ := e1
  have hb1 := Blk.new (w) 34 #[.int .i64 k1, .int .i64 n1, .string s1, .slice A1 l1.length cap1]
  have X10 := Lib.hid (show Blk ((w).alloc (.cells #[.int .i64 k1, .int .i64 n1, .string s1, .slice A1 l1.length cap1] 34)) (w.heap.size) 34 #[.int .i64 k1, .int .i64 n1, .string s1, .slice A1 l1.length cap1] from hb1)
  have O0 := Lib.hid (show Only [] w ((w).alloc (.cells #[.int .i64 k1, .int .i64 n1, .string s1, .slice A1 l1.length cap1] 34)) from (Only.refl [] w).alloc _)
  clear hb1
  show Calls Tryd.prog 5 #[.agg #[.int .i64 k1, .int .i64 n1, .string s1, .slice A1 l1.length cap1]] w _
  have D22b := Lib.hid (show ∀ W, Only [] w W → ∀ B (y : Vx), CpV B W tr y → Calls Tryd.prog 22 #[y.val, .agg #[.int .i64 k1, .int .i64 n1, .string s1, .slice A1 l1.length cap1]] W _ from D22.out)
  clear D22
  have CF2 := Lib.hid (show ∀ W, Only [] w W → Calls Tryd.prog 19 #[.slice (some ⟨W.heap.size, 0, none⟩) 1 1] (W.alloc (.cells #[.int .i64 k1, .int .i64 n1, .string s1, .slice A1 l1.length cap1] 34)) _ from CF.out)
  clear CF
  go_enter Tryd.func5, Tryd.ntmps5
  go_wp2_with (fail)
  refine (C1.out _ O0.out).mono ?_
  rintro r w1 ⟨rfl, o1⟩
  have O1 := Lib.hid (O0.out.trans o1 (by simp))
  have X11 := Lib.hid (o1.blk X10.out (by simp))
  clear o1 
  obtain ⟨b10, b11, b12, b13, bl1⟩ := X11.out.facts4
  go_wp2_with (fail)
  refine (CF2.out _ O1.out).mono ?_
  rintro r w2 ⟨rfl, o2⟩
  have O2 := Lib.hid (O1.out.trans o2 (by simp))
  have X12 := Lib.hid (o2.blk X11.out (by simp))
  clear o2 
  clear b10 b11 b12 b13 bl1
  obtain ⟨b10, b11, b12, b13, bl1⟩ := X12.out.facts4
  cases fb with
  | false =>
    go_wp2_with (fail)
    refine (C1.out _ O2.out).mono ?_
    rintro r w3 ⟨rfl, o3⟩
    have O3 := Lib.hid (O2.out.trans o3 (by simp))
    have X13 := Lib.hid (o3.blk X12.out (by simp))
    clear o3 
    clear b10 b11 b12 b13 bl1
    go_wp2_with (fail)
    go_ret
    exact ⟨rfl, O3.out⟩
  | true =>
    go_wp2_with (fail)
    refine (D20.out _ O2.out).mono ?_
    rintro r w3 ⟨rfl, o3⟩
    have O3 := Lib.hid (O2.out.trans o3 (by simp))
    have X13 := Lib.hid (o3.blk X12.out (by simp))
    clear o3 
    clear b10 b11 b12 b13 bl1
    obtain ⟨b10, b11, b12, b13, bl1⟩ := X13.out.facts4
    go_wp2_with (fail)
    have HX := Lib.hid (fun W (o : Only [] (w3).drew W) => O3.out.trans ((Only.refl [] w3).drew.trans o (by simp)) (by simp))
    clear b10 b11 b12 b13 bl1
    refine (wpIn_wide (n := 9)).1 ?_
    refine wpIn_region_relR 11 (Only []) (fr := ?frg1) (tl := ?tlg1) (fun iq v wv => match iq with
      | 0 => v = .agg #[.int .i64 k1, .int .i64 n1, .string s1, .slice A1 l1.length cap1]
      | 1 => v = .bool q1
      | 2 => v = .bool q1
      | 3 => v = .bool false
      | 4 => v = .bool false
      | 5 => v = .agg #[.int .i64 k1, .int .i64 n1, .string s1, .slice A1 l1.length cap1]
      | 6 => ∃ yk yn ys yA ycap yl, v = .agg #[.int .i64 yk, .int .i64 yn, .string ys, .slice yA (List.length yl) ycap] ∧ CpV 0 wv tr (.mk yk yn ys yA ycap yl)
      | 7 => v = .agg #[.int .i64 k1, .int .i64 n1, .string s1, .slice A1 l1.length cap1]
      | 8 => v = .bool true
      | 9 => v = .bool false
      | 10 => v = .bool false
      | _ => True) (.inl rfl) (by kernel_rfl) (by kernel_rfl) (by kernel_rfl) (by kernel_rfl) (by kernel_rfl) (by kernel_rfl) (by decide) ?htlg1 ?hfrg1 (Only.refl _ _) (fun _ _ _ h k => h.trans k (fun _ hx => .inl hx)) ?stabg1 ?stepsg1 ?doneg1
    case htlg1 => simp only [List.drop_succ_cons, List.drop_zero]; rfl
    case hfrg1 => intro vals; simp only [putAll, dstAt, Act.put, List.getElem?_toArray, List.getElem?_cons_zero, List.getElem?_cons_succ, Option.bind_some, List.setIfInBounds_toArray, List.set_cons_zero, List.set_cons_succ]; rfl
    case stabg1 =>
      intro i v wa wb h
      try dsimp only
      split <;> first | exact id | (rintro ⟨yk, yn, ys, yA, ycap, yl, h1, h2⟩; exact ⟨yk, yn, ys, yA, ycap, yl, h1, h2.keep h⟩)
    case stepsg1 =>
      refine ⟨?_, ?_, ?_, ?_, ?_, ?_, ?_, ?_, ?_, ?_, ?_, trivial⟩
      · intro vals wr hR hp K hK
        dsimp only at hK ⊢
        clear hp
        unfold RunsOp
        have tg := hR.blk (Blk.drew X13.out) (by simp)
        obtain ⟨k0, k1, k2, k3, kl⟩ := tg.facts4
        clear tg
        go_simp
        exact hK.out _ _ ⟨_, rfl, Only.refl _ _, rfl⟩
      · intro vals wr hR hp K hK
        dsimp only at hK ⊢
        obtain ⟨p0, -⟩ := hp
        replace p0 := p0 rfl
        dsimp only at p0
        rw [p0] at hK ⊢
        clear p0
        unfold RunsOp
        go_simp
        refine (D21.out _ (HX.out _ hR)).mono ?_
        rintro e w2 ⟨rfl, o2⟩
        exact hK.out _ _ ⟨_, rfl, o2, rfl⟩
      · intro vals wr hR hp K hK
        dsimp only at hK ⊢
        clear hp
        unfold RunsOp
        go_simp
        exact hK.out _ _ ⟨_, rfl, Only.refl _ _, rfl⟩
      · intro vals wr hR hp K hK
        dsimp only at hK ⊢
        obtain ⟨p1, p2, -⟩ := hp
        replace p1 := p1 rfl
        replace p2 := p2 rfl
        dsimp only at p1 p2
        rw [p1, p2] at hK ⊢
        clear p1 p2
        unfold RunsOp
        go_simp
        exact hK.out _ _ ⟨_, rfl, Only.refl _ _, rfl⟩
      · intro vals wr hR hp K hK
        dsimp only at hK ⊢
        obtain ⟨p3, -, -⟩ := hp
        replace p3 := p3 rfl
        dsimp only at p3
        rw [p3] at hK ⊢
        clear p3
        unfold RunsOp
        go_simp
        exact hK.out _ _ ⟨_, rfl, Only.refl _ _, rfl⟩
      · intro vals wr hR hp K hK
        dsimp only at hK ⊢
        obtain ⟨p4, -⟩ := hp
        replace p4 := p4 rfl
        dsimp only at p4
        rw [p4] at hK ⊢
        clear p4
        unfold RunsOp
        have tg := hR.blk (Blk.drew X13.out) (by simp)
        obtain ⟨k0, k1, k2, k3, kl⟩ := tg.facts4
        clear tg
        go_simp
        exact hK.out _ _ ⟨_, rfl, Only.refl _ _, rfl⟩
      · intro vals wr hR hp K hK
        dsimp only at hK ⊢
        obtain ⟨p5, p4, -, -⟩ := hp
        replace p5 := p5 rfl
        replace p4 := p4 rfl
        dsimp only at p5 p4
        rw [p5, p4] at hK ⊢
        clear p5 p4
        unfold RunsOp
        go_simp
        refine (D23.out _ (HX.out _ hR) (by first | rfl | trivial)).mono ?_
        rintro e w2 ⟨yk, yn, ys, yA, ycap, yl, rfl, hc, o2⟩
        exact hK.out _ _ ⟨_, rfl, o2, yk, yn, ys, yA, ycap, yl, rfl, hc.out.low (Nat.zero_le _)⟩
      · intro vals wr hR hp K hK
        dsimp only at hK ⊢
        obtain ⟨p4, -⟩ := hp
        replace p4 := p4 rfl
        dsimp only at p4
        rw [p4] at hK ⊢
        clear p4
        unfold RunsOp
        have tg := hR.blk (Blk.drew X13.out) (by simp)
        obtain ⟨k0, k1, k2, k3, kl⟩ := tg.facts4
        clear tg
        go_simp
        exact hK.out _ _ ⟨_, rfl, Only.refl _ _, rfl⟩
      · intro vals wr hR hp K hK
        dsimp only at hK ⊢
        obtain ⟨p6, p7, -, p4, -⟩ := hp
        replace p6 := p6 rfl
        replace p7 := p7 rfl
        replace p4 := p4 rfl
        dsimp only at p6 p7 p4
        obtain ⟨yk, yn, ys, yA, ycap, yl, e6, hc6⟩ := p6
        rw [e6, p7, p4] at hK ⊢
        clear e6 p7 p4
        unfold RunsOp
        have HC6 := Lib.hid hc6
        clear hc6
        go_simp
        refine (D22b.out _ (HX.out _ hR) _ _ HC6.out).mono ?_
        rintro e w2 ⟨rfl, o2⟩
        exact hK.out _ _ ⟨_, rfl, o2, rfl⟩
      · intro vals wr hR hp K hK
        dsimp only at hK ⊢
        obtain ⟨p8, p4, -⟩ := hp
        replace p8 := p8 rfl
        replace p4 := p4 rfl
        dsimp only at p8 p4
        rw [p8, p4] at hK ⊢
        clear p8 p4
        unfold RunsOp
        go_simp
        exact hK.out _ _ ⟨_, rfl, Only.refl _ _, rfl⟩
      · intro vals wr hR hp K hK
        dsimp only at hK ⊢
        obtain ⟨p4, p9, -⟩ := hp
        replace p4 := p4 rfl
        replace p9 := p9 rfl
        dsimp only at p4 p9
        rw [p4, p9] at hK ⊢
        clear p4 p9
        unfold RunsOp
        go_simp
        exact hK.out _ _ ⟨_, rfl, Only.refl _ _, rfl⟩
    case doneg1 =>
      intro vals wd hR hF
      have f0 : vals 0 = .agg #[.int .i64 k1, .int .i64 n1, .string s1, .slice A1 l1.length cap1] := hF 0 (by decide)
      have f1 : (vals 1) = .bool q1 := hF 1 (by decide)
      have f2 : vals 2 = .bool q1 := hF 2 (by decide)
      have f3 : vals 3 = .bool false := hF 3 (by decide)
      have f4 : vals 4 = .bool false := hF 4 (by decide)
      have f5 : vals 5 = .agg #[.int .i64 k1, .int .i64 n1, .string s1, .slice A1 l1.length cap1] := hF 5 (by decide)
      have f6 : ∃ yk yn ys yA ycap yl, (vals 6) = .agg #[.int .i64 yk, .int .i64 yn, .string ys, .slice yA (List.length yl) ycap] ∧ CpV 0 wd tr (.mk yk yn ys yA ycap yl) := hF 6 (by decide)
      have f7 : vals 7 = .agg #[.int .i64 k1, .int .i64 n1, .string s1, .slice A1 l1.length cap1] := hF 7 (by decide)
      have f8 : (vals 8) = .bool true := hF 8 (by decide)
      have f9 : vals 9 = .bool false := hF 9 (by decide)
      have f10 : vals 10 = .bool false := hF 10 (by decide)
      rw [f0, f2, f3, f4, f5, f7, f9, f10]
      clear f0 f2 f3 f4 f5 f7 f9 f10
      rw [f1, f8]
      clear f1 f8
      have O9 := Lib.hid (HX.out _ hR)
      have X19 := Lib.hid (hR.blk (Blk.drew X13.out) (by simp))
      clear hR hF
      gi_wp2_with (fail)
      cases q1 with
      | false =>
        obtain ⟨b10, b11, b12, b13, bl1⟩ := X19.out.facts4
        go_wp2_with (fail)
        refine (D24.out _ O9.out (by first | rfl | trivial)).mono ?_
        rintro r w10 ⟨yk, yA, ycap, yl, rfl, hc, o10⟩
        have O10 := Lib.hid (O9.out.trans o10 (by simp))
        have X110 := Lib.hid (o10.blk X19.out (by simp))
        clear o10 
        clear b10 b11 b12 b13 bl1
        obtain ⟨b10, b11, b12, b13, bl1⟩ := X110.out.facts4
        go_wp2_with (fail)
        refine (D15.out _ _ _ _ _ _ (by first | rfl | trivial) hc.out).mono ?_
        rintro r w11 ⟨rfl, o11⟩
        have O11 := Lib.hid (O10.out.trans o11 (by simp))
        have X111 := Lib.hid (o11.blk X110.out (by simp))
        clear o11
        clear b10 b11 b12 b13 bl1
        obtain ⟨b10, b11, b12, b13, bl1⟩ := X111.out.facts4
        have htn := HTN.out (by first | rfl | trivial)
        subst htn
        clear HTN HTY
        go_wp2_with (fail)
        refine (D25.out _ O11.out).mono ?_
        rintro r w12 ⟨rfl, o12⟩
        have O12 := Lib.hid (O11.out.trans o12 (by simp))
        have X112 := Lib.hid (o12.blk X111.out (by simp))
        clear o12 
        clear b10 b11 b12 b13 bl1
        unfold strV
        go_wp2_with (fail)
        go_ret
        exact ⟨rfl, O12.out⟩
      | true =>
        obtain ⟨b10, b11, b12, b13, bl1⟩ := X19.out.facts4
        have hty9 := HTY.out (by first | rfl | trivial)
        subst hty9
        clear HTN HTY
        go_wp2_with (fail)
        have HX := Lib.hid (fun W (o : Only [] (wd).drew W) => O9.out.trans ((Only.refl [] wd).drew.trans o (by simp)) (by simp))
        clear b10 b11 b12 b13 bl1
        refine (wpIn_wide (n := 9)).1 ?_
        refine wpIn_region_relR 17 (Only []) (fr := ?frg2) (tl := ?tlg2) (fun iq v wv => match iq with
          | 0 => v = .agg #[.int .i64 k1, .int .i64 n1, .string s1, .slice A1 l1.length cap1]
          | 1 => ∃ yk yA ycap yl, v = .agg #[.int .i64 yk, .slice yA (List.length yl) ycap] ∧ CpT 0 wv tp (.mk yk yA ycap yl)
          | 2 => v = .agg #[.int .i64 k1, .int .i64 n1, .string s1, .slice A1 l1.length cap1]
          | 3 => ∃ yk yA ycap yl, v = .agg #[.int .i64 yk, .slice yA (List.length yl) ycap] ∧ CpT 0 wv ty (.mk yk yA ycap yl)
          | 4 => v = .bool true
          | 5 => v = .bool true
          | 6 => v = .agg #[.int .i64 k1, .int .i64 n1, .string s1, .slice A1 l1.length cap1]
          | 7 => v = strV tt
          | 8 => v = .agg #[.int .i64 k1, .int .i64 n1, .string s1, .slice A1 l1.length cap1]
          | 9 => v = strV tt
          | 10 => v = .bool true
          | 11 => v = .bool true
          | 12 => v = .bool true
          | 13 => v = .agg #[.int .i64 k1, .int .i64 n1, .string s1, .slice A1 l1.length cap1]
          | 14 => ∃ yk yA ycap yl, v = .agg #[.int .i64 yk, .slice yA (List.length yl) ycap] ∧ CpT 0 wv tp (.mk yk yA ycap yl)
          | 15 => v = .bool true
          | 16 => v = .bool true
          | _ => True) (.inl rfl) (by kernel_rfl) (by kernel_rfl) (by kernel_rfl) (by kernel_rfl) (by kernel_rfl) (by kernel_rfl) (by decide) ?htlg2 ?hfrg2 (Only.refl _ _) (fun _ _ _ h k => h.trans k (fun _ hx => .inl hx)) ?stabg2 ?stepsg2 ?doneg2
        case htlg2 => simp only [List.drop_succ_cons, List.drop_zero]; rfl
        case hfrg2 => intro vals; simp only [putAll, dstAt, Act.put, List.getElem?_toArray, List.getElem?_cons_zero, List.getElem?_cons_succ, Option.bind_some, List.setIfInBounds_toArray, List.set_cons_zero, List.set_cons_succ]; rfl
        case stabg2 =>
          intro i v wa wb h
          try dsimp only
          split <;> first | exact id | (rintro ⟨yk, yA, ycap, yl, h1, h2⟩; exact ⟨yk, yA, ycap, yl, h1, h2.keep h⟩)
        case stepsg2 =>
          refine ⟨?_, ?_, ?_, ?_, ?_, ?_, ?_, ?_, ?_, ?_, ?_, ?_, ?_, ?_, ?_, ?_, ?_, trivial⟩
          · intro vals wr hR hp K hK
            dsimp only at hK ⊢
            clear hp
            unfold RunsOp
            have tg := hR.blk (Blk.drew X19.out) (by simp)
            obtain ⟨k0, k1, k2, k3, kl⟩ := tg.facts4
            clear tg
            go_simp
            exact hK.out _ _ ⟨_, rfl, Only.refl _ _, rfl⟩
          · intro vals wr hR hp K hK
            dsimp only at hK ⊢
            obtain ⟨p0, -⟩ := hp
            replace p0 := p0 rfl
            dsimp only at p0
            rw [p0] at hK ⊢
            clear p0
            unfold RunsOp
            go_simp
            refine (D24.out _ (HX.out _ hR) (by first | rfl | trivial)).mono ?_
            rintro e w2 ⟨yk, yA, ycap, yl, rfl, hc, o2⟩
            exact hK.out _ _ ⟨_, rfl, o2, yk, yA, ycap, yl, rfl, hc.out.low (Nat.zero_le _)⟩
          · intro vals wr hR hp K hK
            dsimp only at hK ⊢
            clear hp
            unfold RunsOp
            have tg := hR.blk (Blk.drew X19.out) (by simp)
            obtain ⟨k0, k1, k2, k3, kl⟩ := tg.facts4
            clear tg
            go_simp
            exact hK.out _ _ ⟨_, rfl, Only.refl _ _, rfl⟩
          · intro vals wr hR hp K hK
            dsimp only at hK ⊢
            obtain ⟨p2, -, -⟩ := hp
            replace p2 := p2 rfl
            dsimp only at p2
            rw [p2] at hK ⊢
            clear p2
            unfold RunsOp
            go_simp
            refine (D26.out _ (HX.out _ hR) (by first | rfl | trivial)).mono ?_
            rintro e w2 ⟨yk, yA, ycap, yl, rfl, hc, o2⟩
            exact hK.out _ _ ⟨_, rfl, o2, yk, yA, ycap, yl, rfl, hc.out.low (Nat.zero_le _)⟩
          · intro vals wr hR hp K hK
            dsimp only at hK ⊢
            obtain ⟨p1, p3, -, -⟩ := hp
            replace p1 := p1 rfl
            replace p3 := p3 rfl
            dsimp only at p1 p3
            obtain ⟨yk1, yA1, ycap1, yl1, e1, hc1⟩ := p1
            obtain ⟨yk3, yA3, ycap3, yl3, e3, hc3⟩ := p3
            rw [e1, e3] at hK ⊢
            clear e1 e3
            unfold RunsOp
            have HC1 := Lib.hid hc1
            have HC3 := Lib.hid hc3
            clear hc1 hc3
            go_simp
            refine (D16.out _ _ _ _ _ _ _ _ _ _ _ (by first | rfl | trivial) HC1.out HC3.out).mono ?_
            rintro e w2 ⟨rfl, o2⟩
            exact hK.out _ _ ⟨_, rfl, o2, rfl⟩
          · intro vals wr hR hp K hK
            dsimp only at hK ⊢
            obtain ⟨p4, -, -⟩ := hp
            replace p4 := p4 rfl
            dsimp only at p4
            rw [p4] at hK ⊢
            clear p4
            unfold RunsOp
            go_simp
            exact hK.out _ _ ⟨_, rfl, Only.refl _ _, rfl⟩
          · intro vals wr hR hp K hK
            dsimp only at hK ⊢
            obtain ⟨p5, -⟩ := hp
            replace p5 := p5 rfl
            dsimp only at p5
            rw [p5] at hK ⊢
            clear p5
            unfold RunsOp
            have tg := hR.blk (Blk.drew X19.out) (by simp)
            obtain ⟨k0, k1, k2, k3, kl⟩ := tg.facts4
            clear tg
            go_simp
            exact hK.out _ _ ⟨_, rfl, Only.refl _ _, rfl⟩
          · intro vals wr hR hp K hK
            dsimp only at hK ⊢
            obtain ⟨p6, p5, -, -⟩ := hp
            replace p6 := p6 rfl
            replace p5 := p5 rfl
            dsimp only at p6 p5
            rw [p6, p5] at hK ⊢
            clear p6 p5
            unfold RunsOp
            go_simp
            refine (D25.out _ (HX.out _ hR)).mono ?_
            rintro e w2 ⟨rfl, o2⟩
            exact hK.out _ _ ⟨_, rfl, o2, rfl⟩
          · intro vals wr hR hp K hK
            dsimp only at hK ⊢
            obtain ⟨p5, -⟩ := hp
            replace p5 := p5 rfl
            dsimp only at p5
            rw [p5] at hK ⊢
            clear p5
            unfold RunsOp
            have tg := hR.blk (Blk.drew X19.out) (by simp)
            obtain ⟨k0, k1, k2, k3, kl⟩ := tg.facts4
            clear tg
            go_simp
            exact hK.out _ _ ⟨_, rfl, Only.refl _ _, rfl⟩
          · intro vals wr hR hp K hK
            dsimp only at hK ⊢
            obtain ⟨p8, -, p5, -⟩ := hp
            replace p8 := p8 rfl
            replace p5 := p5 rfl
            dsimp only at p8 p5
            rw [p8, p5] at hK ⊢
            clear p8 p5
            unfold RunsOp
            go_simp
            refine (D27.out _ (HX.out _ hR) (by first | rfl | trivial)).mono ?_
            rintro e w2 ⟨rfl, o2⟩
            exact hK.out _ _ ⟨_, rfl, o2, rfl⟩
          · intro vals wr hR hp K hK
            dsimp only at hK ⊢
            obtain ⟨p7, p9, p5, -⟩ := hp
            replace p7 := p7 rfl
            replace p9 := p9 rfl
            replace p5 := p5 rfl
            dsimp only at p7 p9 p5
            rw [p7, p9, p5] at hK ⊢
            clear p7 p9 p5
            unfold RunsOp
            unfold strV
            go_simp
            exact hK.out _ _ ⟨_, rfl, Only.refl _ _, rfl⟩
          · intro vals wr hR hp K hK
            dsimp only at hK ⊢
            obtain ⟨p5, p10, -⟩ := hp
            replace p5 := p5 rfl
            replace p10 := p10 rfl
            dsimp only at p5 p10
            rw [p5, p10] at hK ⊢
            clear p5 p10
            unfold RunsOp
            go_simp
            exact hK.out _ _ ⟨_, rfl, Only.refl _ _, rfl⟩
          · intro vals wr hR hp K hK
            dsimp only at hK ⊢
            obtain ⟨p11, -, -⟩ := hp
            replace p11 := p11 rfl
            dsimp only at p11
            rw [p11] at hK ⊢
            clear p11
            unfold RunsOp
            go_simp
            exact hK.out _ _ ⟨_, rfl, Only.refl _ _, rfl⟩
          · intro vals wr hR hp K hK
            dsimp only at hK ⊢
            obtain ⟨p12, -⟩ := hp
            replace p12 := p12 rfl
            dsimp only at p12
            rw [p12] at hK ⊢
            clear p12
            unfold RunsOp
            have tg := hR.blk (Blk.drew X19.out) (by simp)
            obtain ⟨k0, k1, k2, k3, kl⟩ := tg.facts4
            clear tg
            go_simp
            exact hK.out _ _ ⟨_, rfl, Only.refl _ _, rfl⟩
          · intro vals wr hR hp K hK
            dsimp only at hK ⊢
            obtain ⟨p13, p12, -, -⟩ := hp
            replace p13 := p13 rfl
            replace p12 := p12 rfl
            dsimp only at p13 p12
            rw [p13, p12] at hK ⊢
            clear p13 p12
            unfold RunsOp
            go_simp
            refine (D24.out _ (HX.out _ hR) (by first | rfl | trivial)).mono ?_
            rintro e w2 ⟨yk, yA, ycap, yl, rfl, hc, o2⟩
            exact hK.out _ _ ⟨_, rfl, o2, yk, yA, ycap, yl, rfl, hc.out.low (Nat.zero_le _)⟩
          · intro vals wr hR hp K hK
            dsimp only at hK ⊢
            obtain ⟨p14, -, p12, -⟩ := hp
            replace p14 := p14 rfl
            replace p12 := p12 rfl
            dsimp only at p14 p12
            obtain ⟨yk14, yA14, ycap14, yl14, e14, hc14⟩ := p14
            rw [e14, p12] at hK ⊢
            clear e14 p12
            unfold RunsOp
            have HC14 := Lib.hid hc14
            clear hc14
            go_simp
            refine (D13.out _ _ _ _ _ _ (by first | rfl | trivial) HC14.out).mono ?_
            rintro e w2 ⟨rfl, o2⟩
            exact hK.out _ _ ⟨_, rfl, o2, rfl⟩
          · intro vals wr hR hp K hK
            dsimp only at hK ⊢
            obtain ⟨p12, p15, -⟩ := hp
            replace p12 := p12 rfl
            replace p15 := p15 rfl
            dsimp only at p12 p15
            rw [p12, p15] at hK ⊢
            clear p12 p15
            unfold RunsOp
            go_simp
            exact hK.out _ _ ⟨_, rfl, Only.refl _ _, rfl⟩
        case doneg2 =>
          intro vals wd hR hF
          have f0 : vals 0 = .agg #[.int .i64 k1, .int .i64 n1, .string s1, .slice A1 l1.length cap1] := hF 0 (by decide)
          have f1 : ∃ yk yA ycap yl, (vals 1) = .agg #[.int .i64 yk, .slice yA (List.length yl) ycap] ∧ CpT 0 wd tp (.mk yk yA ycap yl) := hF 1 (by decide)
          have f2 : vals 2 = .agg #[.int .i64 k1, .int .i64 n1, .string s1, .slice A1 l1.length cap1] := hF 2 (by decide)
          have f3 : ∃ yk yA ycap yl, (vals 3) = .agg #[.int .i64 yk, .slice yA (List.length yl) ycap] ∧ CpT 0 wd ty (.mk yk yA ycap yl) := hF 3 (by decide)
          have f4 : (vals 4) = .bool true := hF 4 (by decide)
          have f5 : vals 5 = .bool true := hF 5 (by decide)
          have f6 : vals 6 = .agg #[.int .i64 k1, .int .i64 n1, .string s1, .slice A1 l1.length cap1] := hF 6 (by decide)
          have f7 : (vals 7) = strV tt := hF 7 (by decide)
          have f8 : vals 8 = .agg #[.int .i64 k1, .int .i64 n1, .string s1, .slice A1 l1.length cap1] := hF 8 (by decide)
          have f9 : (vals 9) = strV tt := hF 9 (by decide)
          have f10 : vals 10 = .bool true := hF 10 (by decide)
          have f11 : vals 11 = .bool true := hF 11 (by decide)
          have f12 : vals 12 = .bool true := hF 12 (by decide)
          have f13 : vals 13 = .agg #[.int .i64 k1, .int .i64 n1, .string s1, .slice A1 l1.length cap1] := hF 13 (by decide)
          have f14 : ∃ yk yA ycap yl, (vals 14) = .agg #[.int .i64 yk, .slice yA (List.length yl) ycap] ∧ CpT 0 wd tp (.mk yk yA ycap yl) := hF 14 (by decide)
          have f15 : (vals 15) = .bool true := hF 15 (by decide)
          have f16 : vals 16 = .bool true := hF 16 (by decide)
          rw [f0, f2, f5, f6, f8, f10, f11, f12, f13, f16]
          clear f0 f2 f5 f6 f8 f10 f11 f12 f13 f16
          rw [f4, f7, f9, f15]
          clear f4 f7 f9 f15
          have O9 := Lib.hid (HX.out _ hR)
          clear hR hF
          gi_wp2_with (fail)
          go_wp2_with (fail)
          go_ret
          exact ⟨rfl, O9.out⟩
end Go.Proofs.YtgpljjejfebhoaaDoor
