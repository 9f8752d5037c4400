/- SameExpr, the document's. -/
import Derived.Test.YtfnacnlaphpflaaDoorSame
import Derived.Test.YtfnacnlaphpflaaDoorFactsR
namespace Go.Proofs.YtfnacnlaphpflaaDoor
open Go.RowKit Go.Kx
set_option maxRecDepth 100000

set_option maxHeartbeats 4000000 in
theorem rsame_any : ∀ (a b : Ex) (w : World), Lies w a → Lies w b →
    Calls Tryd.prog 14 #[a.val, b.val] w fun r w' => r = .returned (.bool (a.tr.same b.tr)) ∧ Only [] w w' := by
  refine Ex.ind (fun a ih => ?_)
  intro b w hLa hLb
  obtain ⟨op, n, nm, sb, A, cap, args⟩ := a
  obtain ⟨op2, n2, nm2, sb2, A2, cap2, args2⟩ := b
  have HE := Lib.hid (show (Ex.mk op n nm sb A cap args).tr.same (Ex.mk op2 n2 nm2 sb2 A2 cap2 args2).tr = (decide (op = op2) && decide (n = n2) && decide (nm.toList = nm2.toList) && decide (sb.toList = sb2.toList) && alikeP (fun a b => a.tr.same b.tr) args args2) from by
    rw [Ex.tr, Ex.tr, same_mk, alike_map])
  have hbx := Blk.new w 24 #[.int .i64 op, .int .i64 n, .string nm, .string sb, .slice A args.length cap]
  have o0 : Only [] w (w.alloc (.cells #[.int .i64 op, .int .i64 n, .string nm, .string sb, .slice A args.length cap] 24)) := (Only.refl _ _).alloc _
  have hs1 : (w.alloc (.cells #[.int .i64 op, .int .i64 n, .string nm, .string sb, .slice A args.length cap] 24)).heap.size = w.heap.size + 1 := by simp
  have hby := Blk.new (w.alloc (.cells #[.int .i64 op, .int .i64 n, .string nm, .string sb, .slice A args.length cap] 24)) 24 #[.int .i64 op2, .int .i64 n2, .string nm2, .string sb2, .slice A2 args2.length cap2]
  rw [hs1] at hby
  have o1 : Only [] (w.alloc (.cells #[.int .i64 op, .int .i64 n, .string nm, .string sb, .slice A args.length cap] 24)) ((w.alloc (.cells #[.int .i64 op, .int .i64 n, .string nm, .string sb, .slice A args.length cap] 24)).alloc (.cells #[.int .i64 op2, .int .i64 n2, .string nm2, .string sb2, .slice A2 args2.length cap2] 24)) := (Only.refl _ _).alloc _
  have HBX := Lib.hid (o1.blk hbx (by simp))
  have HBY := Lib.hid hby
  obtain ⟨b0, b1, b2, b3, b4, bl⟩ := HBX.out.facts5
  obtain ⟨d0, d1, d2, d3, d4, dl⟩ := hby.facts5
  have HO := Lib.hid (o0.trans o1 (by simp))
  have HA := Lib.hid (hLa.rowL.keep HO.out)
  have HB := Lib.hid (hLb.rowL.keep HO.out)
  have HF := Lib.hid (show ∀ a ∈ args, ∀ b w', Lies w' a → Lies w' b → Calls Tryd.prog 14 #[a.val, b.val] w' fun r w'' => r = .returned (.bool (a.tr.same b.tr)) ∧ Only [] w' w'' from fun a ha b w' h1 h2 => ih a (by simpa [Ex.args] using ha) b w' h1 h2)
  have hl1 := HA.out.len
  have hl2 := HB.out.len
  by_cases hl : args.length = args2.length
  · have e1 : ((args.length : Int) != (args2.length : Int)) = false := by simp [hl]
    have HL := Lib.hid hl
    clear hLa hLb ih hbx hby o0 o1
    show Calls Tryd.prog 14 #[.agg #[.int .i64 op, .int .i64 n, .string nm, .string sb, .slice A args.length cap], .agg #[.int .i64 op2, .int .i64 n2, .string nm2, .string sb2, .slice A2 args2.length cap2]] w _
    rw [hl] at e1 hl1 b0 b1 b2 b3 b4 bl d0 d1 d2 d3 d4 dl HBX HBY HO HA HB ⊢
    go_enter Tryd.func14, Tryd.ntmps14
    go_wp2_with (fail)
    · obtain rfl : op = op2 := by assumption
      obtain rfl : n = n2 := by assumption
      have E3 := Lib.hid (show nm.toList = nm2.toList by assumption)
      have E4 := Lib.hid (show sb.toList = sb2.toList by assumption)
      generalize (w.alloc (.cells #[.int .i64 op, .int .i64 n, .string nm, .string sb, .slice A args2.length cap] 24)).alloc (.cells #[.int .i64 op, .int .i64 n, .string nm2, .string sb2, .slice A2 args2.length cap2] 24) = w1 at *
      go_loopw [5] (fun i wr => ∃ k : Nat, i = .int .i64 k ∧ k ≤ args2.length ∧ alikeP (fun a b => a.tr.same b.tr) (args.take k) (args2.take k) = true ∧ Only [] w1 wr) (fun i _ => args2.length - (intOf i).toNat)
      case atStart => exact ⟨0, rfl, Nat.zero_le _, by simp [alikeP], Only.refl _ _⟩
      case round =>
        clear b0 b1 b2 b3 b4 bl d0 d1 d2 d3 d4 dl
        obtain ⟨wq, rfl⟩ : ∃ wq : World, wq = wr := ⟨_, rfl⟩
        obtain ⟨k, rfl, hk, hp, hO⟩ := hrel
        have HOr := Lib.hid hO
        have HP := Lib.hid hp
        clear hO hp
        have HBXr := Lib.hid (HOr.out.blk HBX.out (by simp))
        have HBYr := Lib.hid (HOr.out.blk HBY.out (by simp))
        obtain ⟨b0, b1, b2, b3, b4, bl⟩ := HBXr.out.facts5
        obtain ⟨d0, d1, d2, d3, d4, dl⟩ := HBYr.out.facts5
        by_cases hlt : k < args2.length
        · obtain ⟨x, hx⟩ : ∃ e, args[k]? = some e := ⟨_, List.getElem?_eq_getElem (by have := HL.out; omega)⟩
          obtain ⟨y, hy⟩ : ∃ e, args2[k]? = some e := ⟨_, List.getElem?_eq_getElem hlt⟩
          have hmx : x ∈ args := List.mem_of_getElem? hx
          have HLx := Lib.hid ((HA.out.sub x hmx).keep HOr.out)
          have HLy := Lib.hid ((HB.out.sub y (List.mem_of_getElem? hy)).keep HOr.out)
          have hcall := HF.out x hmx y
          have HTK := Lib.hid (alikeP_take (p := fun a b => a.tr.same b.tr) HL.out hx hy)
          have HBAD := Lib.hid (alikeP_bad (p := fun a b => a.tr.same b.tr) hx hy)
          have hrx := (HA.out.row k _ hx).only HOr.out (by simp)
          have hry := (HB.out.row k _ hy).only HOr.out (by simp)
          obtain ⟨pe, hpe⟩ : ∃ pe, x.tr.same y.tr = pe := ⟨_, rfl⟩
          rw [hpe] at hcall HTK HBAD
          obtain ⟨xop, xn, xnm, xsb, xA, xcap, xargs⟩ := x
          obtain ⟨yop, yn, ynm, ysb, yA, ycap, yargs⟩ := y
          obtain ⟨ba, oa, rfl, hba, c0, c1, c2, c3, c4⟩ := hrx.cells
          obtain ⟨bb, ob, rfl, hbb, g0, g1, g2, g3, g4⟩ := hry.cells
          have HCA := Lib.hid (show ∀ w', Only [] wq w' → Calls Tryd.prog 14 #[.agg #[.int .i64 xop, .int .i64 xn, .string xnm, .string xsb, .slice xA xargs.length xcap], .agg #[.int .i64 yop, .int .i64 yn, .string ynm, .string ysb, .slice yA yargs.length ycap]] w' fun r w'' => r = .returned (.bool pe) ∧ Only [] w' w'' from fun w' o => hcall w' (HLx.out.keep o) (HLy.out.keep o))
          have hki : (0 : Int) ≤ (k : Int) := by omega
          have hki2 : (k : Int) < (args2.length : Int) := by omega
          clear hx hy hmx hcall hrx hry hpe
          have HC1 := Lib.hid (show (ba < wq.heap.size ∧ wq.cell? ⟨ba, oa + k * 5, none⟩ = some (.int .i64 xop) ∧ wq.cell? ⟨ba, oa + k * 5 + 1, none⟩ = some (.int .i64 xn) ∧ wq.cell? ⟨ba, oa + k * 5 + 2, none⟩ = some (.string xnm) ∧ wq.cell? ⟨ba, oa + k * 5 + 3, none⟩ = some (.string xsb) ∧ wq.cell? ⟨ba, oa + k * 5 + 4, none⟩ = some (.slice xA xargs.length xcap)) from ⟨hba, c0, c1, c2, c3, c4⟩)
          have HC2 := Lib.hid (show (bb < wq.heap.size ∧ wq.cell? ⟨bb, ob + k * 5, none⟩ = some (.int .i64 yop) ∧ wq.cell? ⟨bb, ob + k * 5 + 1, none⟩ = some (.int .i64 yn) ∧ wq.cell? ⟨bb, ob + k * 5 + 2, none⟩ = some (.string ynm) ∧ wq.cell? ⟨bb, ob + k * 5 + 3, none⟩ = some (.string ysb) ∧ wq.cell? ⟨bb, ob + k * 5 + 4, none⟩ = some (.slice yA yargs.length ycap)) from ⟨hbb, g0, g1, g2, g3, g4⟩)
          go_wp2_with (fail)
          clear c0 c1 c2 c3 c4 d0 d1 d2 d3 d4 dl b0 b1 b2 b3 b4 bl g0 g1 g2 g3 g4
          refine (wpIn_wide (n := 9)).1 ?_
          refine wpIn_region_relR 12 (Only []) (fr := ?frg) (tl := ?tlg) (fun iq v wv => match iq with
            | 0 => v = .pointer (some ⟨w.heap.size, 4, none⟩)
            | 1 => v = .slice (some ⟨ba, oa, none⟩) args2.length cap
            | 2 => v = .int .i64 (k : Int)
            | 3 => v = .pointer (some ⟨ba, oa + k * 5, none⟩)
            | 4 => v = .agg #[.int .i64 xop, .int .i64 xn, .string xnm, .string xsb, .slice xA xargs.length xcap]
            | 5 => v = .pointer (some ⟨w.heap.size + 1, 4, none⟩)
            | 6 => v = .slice (some ⟨bb, ob, none⟩) args2.length cap2
            | 7 => v = .int .i64 (k : Int)
            | 8 => v = .pointer (some ⟨bb, ob + k * 5, none⟩)
            | 9 => v = .agg #[.int .i64 yop, .int .i64 yn, .string ynm, .string ysb, .slice yA yargs.length ycap]
            | 10 => v = .bool pe
            | 11 => v = .bool (!pe)
            | _ => True) (.inl rfl) (by kernel_rfl) (by kernel_rfl) (by kernel_rfl) (by kernel_rfl) (by kernel_rfl) (by kernel_rfl) (by decide) ?htlg ?hfrg (Only.refl _ _) (fun _ _ _ h k => h.trans k (fun _ hx => .inl hx)) ?stabg ?stepsg ?doneg
          case htlg => simp only [List.drop_succ_cons, List.drop_zero]; rfl
          case hfrg => intro vals; simp only [putAll, dstAt, Act.put, List.getElem?_toArray, List.getElem?_cons_zero, List.getElem?_cons_succ, Option.bind_some, List.setIfInBounds_toArray, List.set_cons_zero, List.set_cons_succ]; rfl
          case stabg =>
            intro i v wa wb h
            try dsimp only
            split <;> first | exact id
          case stepsg =>
            refine ⟨?_, ?_, ?_, ?_, ?_, ?_, ?_, ?_, ?_, ?_, ?_, ?_, trivial⟩
            · intro vals wr hR hp K hK
              dsimp only at hK ⊢
              clear hp
              unfold RunsOp
              go_simp
              exact hK.out _ _ ⟨_, rfl, Only.refl _ _, rfl⟩
            · intro vals wr hR hp K hK
              dsimp only at hK ⊢
              obtain ⟨p0, -⟩ := hp
              replace p0 := p0 rfl
              dsimp only at p0
              rw [p0] at hK ⊢
              clear p0
              unfold RunsOp
              have tg := hR.blk (Blk.drew HBXr.out) (by simp)
              obtain ⟨k0, k1, k2, k3, k4, kl⟩ := tg.facts5
              clear tg
              go_simp
              exact hK.out _ _ ⟨_, rfl, Only.refl _ _, rfl⟩
            · intro vals wr hR hp K hK
              dsimp only at hK ⊢
              clear hp
              unfold RunsOp
              go_simp
              exact hK.out _ _ ⟨_, rfl, Only.refl _ _, rfl⟩
            · intro vals wr hR hp K hK
              dsimp only at hK ⊢
              obtain ⟨p1, p2, -⟩ := hp
              replace p1 := p1 rfl
              replace p2 := p2 rfl
              dsimp only at p1 p2
              rw [p1, p2] at hK ⊢
              clear p1 p2
              unfold RunsOp
              go_simp
              exact hK.out _ _ ⟨_, rfl, Only.refl _ _, rfl⟩
            · intro vals wr hR hp K hK
              dsimp only at hK ⊢
              obtain ⟨p3, -⟩ := hp
              replace p3 := p3 rfl
              dsimp only at p3
              rw [p3] at hK ⊢
              clear p3
              unfold RunsOp
              have k0 := (hR.cell (p := ⟨ba, oa + k * 5, none⟩) HC1.out.1 (by simp)).trans HC1.out.2.1
              have k1 := (hR.cell (p := ⟨ba, oa + k * 5 + 1, none⟩) HC1.out.1 (by simp)).trans HC1.out.2.2.1
              have k2 := (hR.cell (p := ⟨ba, oa + k * 5 + 2, none⟩) HC1.out.1 (by simp)).trans HC1.out.2.2.2.1
              have k3 := (hR.cell (p := ⟨ba, oa + k * 5 + 3, none⟩) HC1.out.1 (by simp)).trans HC1.out.2.2.2.2.1
              have k4 := (hR.cell (p := ⟨ba, oa + k * 5 + 4, none⟩) HC1.out.1 (by simp)).trans HC1.out.2.2.2.2.2
              go_simp
              exact hK.out _ _ ⟨_, rfl, Only.refl _ _, rfl⟩
            · intro vals wr hR hp K hK
              dsimp only at hK ⊢
              clear hp
              unfold RunsOp
              go_simp
              exact hK.out _ _ ⟨_, rfl, Only.refl _ _, rfl⟩
            · intro vals wr hR hp K hK
              dsimp only at hK ⊢
              obtain ⟨p5, -⟩ := hp
              replace p5 := p5 rfl
              dsimp only at p5
              rw [p5] at hK ⊢
              clear p5
              unfold RunsOp
              have tg := hR.blk (Blk.drew HBYr.out) (by simp)
              obtain ⟨k0, k1, k2, k3, k4, kl⟩ := tg.facts5
              clear tg
              go_simp
              exact hK.out _ _ ⟨_, rfl, Only.refl _ _, rfl⟩
            · intro vals wr hR hp K hK
              dsimp only at hK ⊢
              clear hp
              unfold RunsOp
              go_simp
              exact hK.out _ _ ⟨_, rfl, Only.refl _ _, rfl⟩
            · intro vals wr hR hp K hK
              dsimp only at hK ⊢
              obtain ⟨p6, p7, -⟩ := hp
              replace p6 := p6 rfl
              replace p7 := p7 rfl
              dsimp only at p6 p7
              rw [p6, p7] at hK ⊢
              clear p6 p7
              unfold RunsOp
              go_simp
              exact hK.out _ _ ⟨_, rfl, Only.refl _ _, rfl⟩
            · intro vals wr hR hp K hK
              dsimp only at hK ⊢
              obtain ⟨p8, -⟩ := hp
              replace p8 := p8 rfl
              dsimp only at p8
              rw [p8] at hK ⊢
              clear p8
              unfold RunsOp
              have k0 := (hR.cell (p := ⟨bb, ob + k * 5, none⟩) HC2.out.1 (by simp)).trans HC2.out.2.1
              have k1 := (hR.cell (p := ⟨bb, ob + k * 5 + 1, none⟩) HC2.out.1 (by simp)).trans HC2.out.2.2.1
              have k2 := (hR.cell (p := ⟨bb, ob + k * 5 + 2, none⟩) HC2.out.1 (by simp)).trans HC2.out.2.2.2.1
              have k3 := (hR.cell (p := ⟨bb, ob + k * 5 + 3, none⟩) HC2.out.1 (by simp)).trans HC2.out.2.2.2.2.1
              have k4 := (hR.cell (p := ⟨bb, ob + k * 5 + 4, none⟩) HC2.out.1 (by simp)).trans HC2.out.2.2.2.2.2
              go_simp
              exact hK.out _ _ ⟨_, rfl, Only.refl _ _, rfl⟩
            · intro vals wr hR hp K hK
              dsimp only at hK ⊢
              obtain ⟨p4, p9, -⟩ := hp
              replace p4 := p4 rfl
              replace p9 := p9 rfl
              dsimp only at p4 p9
              rw [p4, p9] at hK ⊢
              clear p4 p9
              unfold RunsOp
              go_simp
              refine (HCA.out _ (((Only.refl [] wq).drew).trans hR (by simp))).mono ?_
              rintro e w2 ⟨rfl, o2⟩
              exact hK.out _ _ ⟨_, rfl, o2, rfl⟩
            · intro vals wr hR hp K hK
              dsimp only at hK ⊢
              obtain ⟨p10, -⟩ := hp
              replace p10 := p10 rfl
              dsimp only at p10
              rw [p10] at hK ⊢
              clear p10
              unfold RunsOp
              go_simp
              exact hK.out _ _ ⟨_, rfl, Only.refl _ _, rfl⟩
          case doneg =>
            intro vals wd hR hF
            have f0 : vals 0 = .pointer (some ⟨w.heap.size, 4, none⟩) := hF 0 (by decide)
            have f1 : vals 1 = .slice (some ⟨ba, oa, none⟩) args2.length cap := hF 1 (by decide)
            have f2 : vals 2 = .int .i64 (k : Int) := hF 2 (by decide)
            have f3 : vals 3 = .pointer (some ⟨ba, oa + k * 5, none⟩) := hF 3 (by decide)
            have f4 : vals 4 = .agg #[.int .i64 xop, .int .i64 xn, .string xnm, .string xsb, .slice xA xargs.length xcap] := hF 4 (by decide)
            have f5 : vals 5 = .pointer (some ⟨w.heap.size + 1, 4, none⟩) := hF 5 (by decide)
            have f6 : vals 6 = .slice (some ⟨bb, ob, none⟩) args2.length cap2 := hF 6 (by decide)
            have f7 : vals 7 = .int .i64 (k : Int) := hF 7 (by decide)
            have f8 : vals 8 = .pointer (some ⟨bb, ob + k * 5, none⟩) := hF 8 (by decide)
            have f9 : vals 9 = .agg #[.int .i64 yop, .int .i64 yn, .string ynm, .string ysb, .slice yA yargs.length ycap] := hF 9 (by decide)
            have f10 : (vals 10) = .bool pe := hF 10 (by decide)
            have f11 : vals 11 = .bool (!pe) := hF 11 (by decide)
            rw [f0, f1, f2, f3, f4, f5, f6, f7, f8, f9, f11]
            clear f0 f1 f2 f3 f4 f5 f6 f7 f8 f9 f11
            rw [f10]
            clear f10
            have HO5 := Lib.hid ((HOr.out.trans (Only.refl [] wq).drew (by simp)).trans hR (by simp))
            clear hR hF
            cases pe with
            | true =>
              gi_wp2_with (fail)
              go_wp2_with (fail)
              go_roundw
              case rel => exact ⟨k + 1, by go_num, by omega, by rw [HTK.out, HP.out]; rfl, HO5.out⟩
              case measure => simp [intOf]; omega
            | false =>
              gi_wp2_with (fail)
              go_wp2_with (fail)
              go_ret
              exact ⟨by rw [HE.out, HBAD.out (by first | rfl | trivial), Bool.and_false]; rfl, HO.out.trans HO5.out (by simp)⟩
        · obtain rfl : k = args2.length := by omega
          go_wp2_with (fail)
          go_ret
          exact ⟨by have := HP.out; rw [List.take_length, List.take_of_length_le (by have := HL.out; omega)] at this; rw [HE.out, this]; simp [E3.out, E4.out], HO.out.trans HOr.out (by simp)⟩
    all_goals
      refine bodyPost_ret (results_tmp rfl _ _ _) rfl ?_
      refine ⟨?_, ((Only.refl _ _).alloc _).alloc _⟩
      rw [HE.out]
      simp_all
  · have e1 : ((args.length : Int) != (args2.length : Int)) = true := by simp; omega
    have HN := Lib.hid (alikeP_len (p := fun a b => a.tr.same b.tr) hl)
    clear hLa hLb ih hbx hby o0 o1 hl
    show Calls Tryd.prog 14 #[.agg #[.int .i64 op, .int .i64 n, .string nm, .string sb, .slice A args.length cap], .agg #[.int .i64 op2, .int .i64 n2, .string nm2, .string sb2, .slice A2 args2.length cap2]] w _
    have hres : (Ex.mk op n nm sb A cap args).tr.same (Ex.mk op2 n2 nm2 sb2 A2 cap2 args2).tr = false := by rw [HE.out, HN.out, Bool.and_false]
    rw [hres]
    go_enter Tryd.func14, Tryd.ntmps14
    go_wp2_with (fail)
    all_goals
      go_ret
      exact ⟨rfl, ((Only.refl _ _).alloc _).alloc _⟩
end Go.Proofs.YtfnacnlaphpflaaDoor
