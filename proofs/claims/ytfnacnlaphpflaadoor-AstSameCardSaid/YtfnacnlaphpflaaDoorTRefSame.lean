/- Same, SameType: the document's. -/
import Derived.Test.YtfnacnlaphpflaaDoorTSame
namespace Go.Proofs.YtfnacnlaphpflaaDoor
open Go.RowKit Go.Kx Go.Val
set_option maxRecDepth 100000
set_option maxHeartbeats 4000000 in
theorem refsameT : ∀ (a b : Tx) (w : World), LiesT w a → LiesT w b →
    Calls Tryd.prog 85 #[a.val, b.val] w fun r w' => r = .returned (.bool (a.tr.same b.tr)) ∧ Only [] w w' := by
  refine Tx.ind (fun a ih => ?_)
  intro b w hLa hLb
  obtain ⟨k, A, cap, l⟩ := a
  obtain ⟨k2, A2, cap2, l2⟩ := b
  have HE := Lib.hid (show (Tx.mk k A cap l).tr.same (Tx.mk k2 A2 cap2 l2).tr = (decide (k = k2) && alikeQ (fun a b : Tx => a.tr.same b.tr) l l2) by
    rw [Tx.tr_mk, Tx.tr_mk, Tt.same_mk, alike_mapT])
  have hbx := Blk.new w 93 #[.int .i64 k, .slice A l.length cap]
  have o0 : Only [] w (w.alloc (.cells #[.int .i64 k, .slice A l.length cap] 93)) := (Only.refl _ _).alloc _
  have hs1 : (w.alloc (.cells #[.int .i64 k, .slice A l.length cap] 93)).heap.size = w.heap.size + 1 := by simp
  have hby := Blk.new (w.alloc (.cells #[.int .i64 k, .slice A l.length cap] 93)) 93 #[.int .i64 k2, .slice A2 l2.length cap2]
  rw [hs1] at hby
  have o1 : Only [] (w.alloc (.cells #[.int .i64 k, .slice A l.length cap] 93)) ((w.alloc (.cells #[.int .i64 k, .slice A l.length cap] 93)).alloc (.cells #[.int .i64 k2, .slice A2 l2.length cap2] 93)) := (Only.refl _ _).alloc _
  have HBX := Lib.hid (o1.blk hbx (by simp))
  have HBY := Lib.hid hby
  obtain ⟨b0, b1, bl⟩ := HBX.out.facts2
  obtain ⟨d0, d1, dl⟩ := hby.facts2
  have HO := Lib.hid (o0.trans o1 (by simp))
  have HA := Lib.hid (hLa.rowL.keep HO.out)
  have HB := Lib.hid (hLb.rowL.keep HO.out)
  have HF := Lib.hid (show ∀ a ∈ l, ∀ b w', LiesT w' a → LiesT w' b → Calls Tryd.prog 85 #[a.val, b.val] w' fun r w'' => r = .returned (.bool (a.tr.same b.tr)) ∧ Only [] w' w'' from fun a ha b w' h1 h2 => ih a (by simpa [Tx.l] using ha) b w' h1 h2)
  have hl1 := HA.out.len
  have hl2 := HB.out.len
  by_cases hl : l.length = l2.length
  · have e1 : ((l.length : Int) != (l2.length : Int)) = false := by simp [hl]
    have HL := Lib.hid hl
    clear hLa hLb ih hbx hby o0 o1
    show Calls Tryd.prog 85 #[.agg #[.int .i64 k, .slice A l.length cap], .agg #[.int .i64 k2, .slice A2 l2.length cap2]] w _
    rw [hl] at e1 hl1 b0 b1 bl d0 d1 dl HBX HBY HO HA HB ⊢
    go_enter Tryd.func85, Tryd.ntmps85
    go_wp2_with (fail)
    · obtain rfl : k = k2 := by assumption
      generalize (w.alloc (.cells #[.int .i64 k, .slice A l2.length cap] 93)).alloc (.cells #[.int .i64 k, .slice A2 l2.length cap2] 93) = w1 at *
      go_loopw [5] (fun i wr => ∃ k : Nat, i = .int .i64 k ∧ k ≤ l2.length ∧ Hid (alikeQ (fun a b : Tx => a.tr.same b.tr) (l.take k) (l2.take k) = true) ∧ Hid (Only [] w1 wr)) (fun i _ => l2.length - (intOf i).toNat)
      case atStart => exact ⟨0, rfl, Nat.zero_le _, Lib.hid (by simp [alikeQ]), Lib.hid (Only.refl _ _)⟩
      case round =>
        clear b0 b1 bl d0 d1 dl
        obtain ⟨wq, rfl⟩ : ∃ wq : World, wq = wr := ⟨_, rfl⟩
        obtain ⟨k, rfl, hk, HP, HOr⟩ := hrel
        have HBXr := Lib.hid (HOr.out.blk HBX.out (by simp))
        have HBYr := Lib.hid (HOr.out.blk HBY.out (by simp))
        obtain ⟨b0, b1, bl⟩ := HBXr.out.facts2
        obtain ⟨d0, d1, dl⟩ := HBYr.out.facts2
        by_cases hlt : k < l2.length
        · obtain ⟨x, hx⟩ : ∃ e, l[k]? = some e := ⟨_, List.getElem?_eq_getElem (by have := HL.out; omega)⟩
          obtain ⟨y, hy⟩ : ∃ e, l2[k]? = some e := ⟨_, List.getElem?_eq_getElem hlt⟩
          have hmx : x ∈ l := List.mem_of_getElem? hx
          have HLx := Lib.hid ((HA.out.sub x hmx).keep HOr.out)
          have HLy := Lib.hid ((HB.out.sub y (List.mem_of_getElem? hy)).keep HOr.out)
          have hcall := HF.out x hmx y
          have HTK := Lib.hid (alikeQ_take (p := fun a b : Tx => a.tr.same b.tr) HL.out hx hy)
          have HBAD := Lib.hid (alikeQ_bad (p := fun a b : Tx => a.tr.same b.tr) hx hy)
          have hrx := (HA.out.row k _ hx).only HOr.out (by simp)
          have hry := (HB.out.row k _ hy).only HOr.out (by simp)
          obtain ⟨pe, hpe⟩ : ∃ pe, x.tr.same y.tr = pe := ⟨_, rfl⟩
          rw [hpe] at hcall HTK HBAD
          obtain ⟨xk, xA, xcap, xl⟩ := x
          obtain ⟨yk, yA, ycap, yl⟩ := y
          obtain ⟨ba, oa, rfl, hba, c0, c1⟩ := hrx.cells
          obtain ⟨bb, ob, rfl, hbb, g0, g1⟩ := hry.cells
          have HC := Lib.hid (And.intro hba (And.intro c0 c1))
          have HD := Lib.hid (And.intro hbb (And.intro g0 g1))
          have HCA := Lib.hid (show ∀ w', Only [] wq w' → Calls Tryd.prog 85 #[.agg #[.int .i64 xk, .slice xA xl.length xcap], .agg #[.int .i64 yk, .slice yA yl.length ycap]] w' fun r w'' => r = .returned (.bool pe) ∧ Only [] w' w'' from fun w' o => hcall w' (HLx.out.keep o) (HLy.out.keep o))
          have hki : (0 : Int) ≤ (k : Int) := by omega
          have hki2 : (k : Int) < (l2.length : Int) := by omega
          clear hx hy hmx hcall hrx hry hpe c0 c1 g0 g1
          go_wp2_with (fail)
          clear b0 b1 bl d0 d1 dl
          refine (wpIn_wide (n := 9)).1 ?_
          refine wpIn_region_relR 11 (Only []) (fr := ?frg) (tl := ?tlg) (fun iq v wv => match iq with
            | 0 => v = .pointer (some ⟨w.heap.size, 1, none⟩)
            | 1 => v = .slice (some ⟨ba, oa, none⟩) l2.length cap
            | 2 => v = .int .i64 (k : Nat)
            | 3 => v = .pointer (some ⟨ba, oa + k * 2, none⟩)
            | 4 => v = .agg #[.int .i64 xk, .slice xA xl.length xcap]
            | 5 => v = .pointer (some ⟨w.heap.size + 1, 1, none⟩)
            | 6 => v = .slice (some ⟨bb, ob, none⟩) l2.length cap2
            | 7 => v = .int .i64 (k : Nat)
            | 8 => v = .pointer (some ⟨bb, ob + k * 2, none⟩)
            | 9 => v = .agg #[.int .i64 yk, .slice yA yl.length ycap]
            | 10 => v = .bool pe
            | _ => True) (.inl rfl) (by kernel_rfl) (by kernel_rfl) (by kernel_rfl) (by kernel_rfl) (by kernel_rfl) (by kernel_rfl) (by decide) ?htlg ?hfrg (Only.refl _ _) (fun _ _ _ h k => h.trans k (fun _ hx => .inl hx)) ?stabg ?stepsg ?doneg
          case htlg => simp only [List.drop_succ_cons, List.drop_zero]; rfl
          case hfrg => intro vals; simp only [putAll, dstAt, Act.put, List.getElem?_toArray, List.getElem?_cons_zero, List.getElem?_cons_succ, Option.bind_some, List.setIfInBounds_toArray, List.set_cons_zero, List.set_cons_succ]; rfl
          case stabg =>
            intro i v wa wb h
            try dsimp only
            split <;> first | exact id
          case stepsg =>
            refine ⟨?_, ?_, ?_, ?_, ?_, ?_, ?_, ?_, ?_, ?_, ?_, trivial⟩
            · intro vals wr hR hp K hK
              dsimp only at hK ⊢
              clear hp
              unfold RunsOp
              go_simp
              exact hK.out _ _ ⟨_, rfl, Only.refl _ _, rfl⟩
            · intro vals wr hR hp K hK
              dsimp only at hK ⊢
              obtain ⟨p0, -⟩ := hp
              replace p0 := p0 rfl
              dsimp only at p0
              rw [p0] at hK ⊢
              clear p0
              unfold RunsOp
              have tg := (hR.blk (Blk.drew HBXr.out) (by simp)).facts2
              obtain ⟨z0, z1, z2⟩ := tg
              go_simp
              exact hK.out _ _ ⟨_, rfl, Only.refl _ _, rfl⟩
            · intro vals wr hR hp K hK
              dsimp only at hK ⊢
              clear hp
              unfold RunsOp
              go_simp
              exact hK.out _ _ ⟨_, rfl, Only.refl _ _, rfl⟩
            · intro vals wr hR hp K hK
              dsimp only at hK ⊢
              obtain ⟨p1, p2, -⟩ := hp
              replace p1 := p1 rfl
              replace p2 := p2 rfl
              dsimp only at p1 p2
              rw [p1, p2] at hK ⊢
              clear p1 p2
              unfold RunsOp
              go_simp
              exact hK.out _ _ ⟨_, rfl, Only.refl _ _, rfl⟩
            · intro vals wr hR hp K hK
              dsimp only at hK ⊢
              obtain ⟨p3, -⟩ := hp
              replace p3 := p3 rfl
              dsimp only at p3
              rw [p3] at hK ⊢
              clear p3
              unfold RunsOp
              have q0 := (hR.cell (p := ⟨ba, oa + k * 2, none⟩) HC.out.1 (by simp)).trans HC.out.2.1
              have q1 := (hR.cell (p := ⟨ba, oa + k * 2 + 1, none⟩) HC.out.1 (by simp)).trans HC.out.2.2
              go_simp
              exact hK.out _ _ ⟨_, rfl, Only.refl _ _, rfl⟩
            · intro vals wr hR hp K hK
              dsimp only at hK ⊢
              clear hp
              unfold RunsOp
              go_simp
              exact hK.out _ _ ⟨_, rfl, Only.refl _ _, rfl⟩
            · intro vals wr hR hp K hK
              dsimp only at hK ⊢
              obtain ⟨p5, -⟩ := hp
              replace p5 := p5 rfl
              dsimp only at p5
              rw [p5] at hK ⊢
              clear p5
              unfold RunsOp
              have tg := (hR.blk (Blk.drew HBYr.out) (by simp)).facts2
              obtain ⟨z0, z1, z2⟩ := tg
              go_simp
              exact hK.out _ _ ⟨_, rfl, Only.refl _ _, rfl⟩
            · intro vals wr hR hp K hK
              dsimp only at hK ⊢
              clear hp
              unfold RunsOp
              go_simp
              exact hK.out _ _ ⟨_, rfl, Only.refl _ _, rfl⟩
            · intro vals wr hR hp K hK
              dsimp only at hK ⊢
              obtain ⟨p6, p7, -⟩ := hp
              replace p6 := p6 rfl
              replace p7 := p7 rfl
              dsimp only at p6 p7
              rw [p6, p7] at hK ⊢
              clear p6 p7
              unfold RunsOp
              go_simp
              exact hK.out _ _ ⟨_, rfl, Only.refl _ _, rfl⟩
            · intro vals wr hR hp K hK
              dsimp only at hK ⊢
              obtain ⟨p8, -⟩ := hp
              replace p8 := p8 rfl
              dsimp only at p8
              rw [p8] at hK ⊢
              clear p8
              unfold RunsOp
              have q0 := (hR.cell (p := ⟨bb, ob + k * 2, none⟩) HD.out.1 (by simp)).trans HD.out.2.1
              have q1 := (hR.cell (p := ⟨bb, ob + k * 2 + 1, none⟩) HD.out.1 (by simp)).trans HD.out.2.2
              go_simp
              exact hK.out _ _ ⟨_, rfl, Only.refl _ _, rfl⟩
            · intro vals wr hR hp K hK
              dsimp only at hK ⊢
              obtain ⟨p4, p9, -⟩ := hp
              replace p4 := p4 rfl
              replace p9 := p9 rfl
              dsimp only at p4 p9
              rw [p4, p9] at hK ⊢
              clear p4 p9
              unfold RunsOp
              go_simp
              refine (HCA.out _ ((Only.refl [] wq).drew.trans hR (by simp))).mono ?_
              rintro e' w2 ⟨rfl, o2⟩
              exact hK.out _ _ ⟨_, rfl, o2, rfl⟩
          case doneg =>
            intro vals wd hR hF
            have f0 : vals 0 = .pointer (some ⟨w.heap.size, 1, none⟩) := hF 0 (by decide)
            have f1 : vals 1 = .slice (some ⟨ba, oa, none⟩) l2.length cap := hF 1 (by decide)
            have f2 : vals 2 = .int .i64 (k : Nat) := hF 2 (by decide)
            have f3 : vals 3 = .pointer (some ⟨ba, oa + k * 2, none⟩) := hF 3 (by decide)
            have f4 : vals 4 = .agg #[.int .i64 xk, .slice xA xl.length xcap] := hF 4 (by decide)
            have f5 : vals 5 = .pointer (some ⟨w.heap.size + 1, 1, none⟩) := hF 5 (by decide)
            have f6 : vals 6 = .slice (some ⟨bb, ob, none⟩) l2.length cap2 := hF 6 (by decide)
            have f7 : vals 7 = .int .i64 (k : Nat) := hF 7 (by decide)
            have f8 : vals 8 = .pointer (some ⟨bb, ob + k * 2, none⟩) := hF 8 (by decide)
            have f9 : vals 9 = .agg #[.int .i64 yk, .slice yA yl.length ycap] := hF 9 (by decide)
            have f10 : (vals 10) = .bool pe := hF 10 (by decide)
            rw [f0, f1, f2, f3, f4, f5, f6, f7, f8, f9]
            clear f0 f1 f2 f3 f4 f5 f6 f7 f8 f9
            rw [f10]
            clear f10
            have HO5 := Lib.hid (HOr.out.trans ((Only.refl [] wq).drew.trans hR (by simp)) (by simp))
            clear hR hF
            cases pe with
            | true =>
              gi_wp2_with (fail)
              go_wp2_with (fail)
              go_roundw
              case rel => exact ⟨k + 1, by go_num, by omega, Lib.hid (by rw [HTK.out, HP.out]; rfl), HO5⟩
              case measure => simp [intOf]; omega
            | false =>
              gi_wp2_with (fail)
              go_wp2_with (fail)
              go_ret
              exact ⟨by rw [HE.out, HBAD.out (by first | rfl | trivial), Bool.and_false]; rfl, HO.out.trans HO5.out (by simp)⟩
        · obtain rfl : k = l2.length := by omega
          go_wp2_with (fail)
          go_ret
          exact ⟨by have := HP.out; rw [List.take_length, List.take_of_length_le (by have := HL.out; omega)] at this; rw [HE.out, this]; simp, HO.out.trans HOr.out (by simp)⟩
    all_goals
      refine bodyPost_ret (results_tmp rfl _ _ _) rfl ?_
      refine ⟨?_, ((Only.refl _ _).alloc _).alloc _⟩
      rw [HE.out]
      simp_all
  · have e1 : ((l.length : Int) != (l2.length : Int)) = true := by simp; omega
    have HN := Lib.hid (alikeQ_len (p := fun a b : Tx => a.tr.same b.tr) hl)
    clear hLa hLb ih hbx hby o0 o1 hl
    show Calls Tryd.prog 85 #[.agg #[.int .i64 k, .slice A l.length cap], .agg #[.int .i64 k2, .slice A2 l2.length cap2]] w _
    have hres : (Tx.mk k A cap l).tr.same (Tx.mk k2 A2 cap2 l2).tr = false := by rw [HE.out, HN.out, Bool.and_false]
    rw [hres]
    go_enter Tryd.func85, Tryd.ntmps85
    go_wp2_with (fail)
    all_goals
      go_ret
      exact ⟨rfl, ((Only.refl _ _).alloc _).alloc _⟩
end Go.Proofs.YtfnacnlaphpflaaDoor
