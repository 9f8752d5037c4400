/- KindLeaves. -/
import Derived.Carry
import Derived.Test.YtjhpckeoackblaaDoorLaid
import Derived.Test.YtjhpckeoackblaaDoorTypes0
import Derived.Test.YtjhpckeoackblaaDoorRType
namespace Go.Proofs.YtjhpckeoackblaaDoor
open Go.ChangeShapes Go.WideShapes Go.ChangeAt Go.RowKit Go.Deep Go.Kx
section
variable {H : Type} {enc : TypeId × Value → H} {P : Program} {w : World} {base : Nat} {spare : Nat → Bool} {held : Bool}
theorem trodAll_five {t0 t1 t2 t3 t4 : TypeId} {args : Array Value} {ds : List (DataW H)} {ps : List MemPlace} (h : DataW.TrodAll enc P w base spare held [t0, t1, t2, t3, t4] args.toList ds ps) :
    ∃ v0 v1 v2 v3 v4 d0 d1 d2 d3 d4 p0 p1 p2 p3 p4, args = #[v0, v1, v2, v3, v4] ∧ ds = [d0, d1, d2, d3, d4] ∧ ps = p0 ++ p1 ++ p2 ++ p3 ++ p4 ∧ DataW.Trod enc P w base spare held t0 v0 d0 p0 ∧ DataW.Trod enc P w base spare held t1 v1 d1 p1 ∧ DataW.Trod enc P w base spare held t2 v2 d2 p2 ∧ DataW.Trod enc P w base spare held t3 v3 d3 p3 ∧ DataW.Trod enc P w base spare held t4 v4 d4 p4 := by
  obtain ⟨v0, vs0, d0, ds0, p0, q0, hargs, rfl, rfl, hd0, hr0⟩ := trodAll_cons h
  obtain ⟨v1, vs1, d1, ds1, p1, q1, rfl, rfl, rfl, hd1, hr1⟩ := trodAll_cons hr0
  obtain ⟨v2, vs2, d2, ds2, p2, q2, rfl, rfl, rfl, hd2, hr2⟩ := trodAll_cons hr1
  obtain ⟨v3, vs3, d3, ds3, p3, q3, rfl, rfl, rfl, hd3, hr3⟩ := trodAll_cons hr2
  obtain ⟨v4, vs4, d4, ds4, p4, q4, rfl, rfl, rfl, hd4, hr4⟩ := trodAll_cons hr3
  obtain ⟨rfl, rfl, rfl⟩ := trodAll_nil hr4
  exact ⟨v0, v1, v2, v3, v4, d0, d1, d2, d3, d4, p0, p1, p2, p3, p4, by cases args; simp_all, rfl, by simp, hd0, hd1, hd2, hd3, hd4⟩
end
end Go.Proofs.YtjhpckeoackblaaDoor
namespace Go.Proofs.YtjhpckeoackblaaDoor
open Go.RowKit Go.Kx
open Go.Val (Tt)
set_option maxRecDepth 100000
set_option maxHeartbeats 16000000 in
theorem leaves_law {A1 : Option Addr} {c1 : Nat} {vars : List Vr} {A2 : Option Addr} {c2 : Nat} {ports : List Pr} {bag : Bool} {A3 : Option Addr} {c3 : Nat} {of : List Vr} {k n : Int} {nm sb : ByteArray} {w : World} (hk : 0 ≤ k ∧ k ≤ 255) (hn : I64 n) (hnm : nm.size ≤ 9223372036854775807) (hsb : sb.size ≤ 9223372036854775807) (hN : LiesN w A1 vars A2 ports A3 of) (hW : WordsIs w) :
    Calls Tryd.prog 5 #[.int .u8 k, .int .i64 n, .string nm, .string sb, .agg #[.slice A1 vars.length c1, .slice A2 ports.length c2, .bool bag, .slice A3 of.length c3]] w fun r w' => r = .returned (.bool true) ∧ Only [] w w' := by
  have h0 := Blk.new w 28 #[.slice A1 vars.length c1, .slice A2 ports.length c2, .bool bag, .slice A3 of.length c3]
  have HN0 := Lib.hid h0
  have HO0 := Lib.hid (show Only [] w (w.alloc (.cells #[.slice A1 vars.length c1, .slice A2 ports.length c2, .bool bag, .slice A3 of.length c3] 28)) from (Only.refl [] w).alloc _)
  have HNM := Lib.hid hN
  have HWD := Lib.hid hW
  have HL0 := Lib.hid hN.low
  have HP0 := Lib.hid hN.ports.low.1
  have CR9 := Lib.hid (fun W (o : Only [] w W) => (show Calls Tryd.prog 9 #[.agg #[.slice A1 vars.length c1, .slice A2 ports.length c2, .bool bag, .slice A3 of.length c3]] W (fun r w' => r = .returned (.bool (nsB vars ports of)) ∧ Only [] W w') from nsright_any (A1 := A1) (A2 := A2) (A3 := A3) (vars := vars) (ports := ports) (of := of) (c1 := c1) (c2 := c2) (bag := bag) (c3 := c3) (hN.keep o)))
  obtain ⟨hk0, hk1⟩ := hk
  clear hN hW h0
  go_enter Tryd.func5, Tryd.ntmps5
  go_wp2_with (fail)
  refine (awake_any (HWD.out.keep HO0.out)).mono ?_
  rintro r w1 ⟨rfl, o1⟩
  have HO1 := Lib.hid (HO0.out.trans o1 (by simp))
  have HN1 := Lib.hid (o1.blk HN0.out (by simp))
  clear o1
  obtain ⟨b0, b1, b2, b3, bl⟩ := HN1.out.facts4
  go_wp2_with (fail)
  refine (CR9.out _ HO1.out).mono ?_
  rintro r w3 ⟨rfl, o3⟩
  have HO3 := Lib.hid (HO1.out.trans o3 (by simp))
  have HN3 := Lib.hid (o3.blk HN1.out (by simp))
  clear o3
  clear b0 b1 b2 b3 bl
  obtain ⟨q, hq⟩ : ∃ q, nsB vars ports of = q := ⟨_, rfl⟩
  rw [hq]
  cases q
  · go_wp2_with (fail)
    refine (awake_any (HWD.out.keep HO3.out)).mono ?_
    rintro r w9 ⟨rfl, o9⟩
    go_wp2_with (fail)
    go_ret
    exact ⟨rfl, HO3.out.trans o9 (by simp)⟩
  · have HOK := Lib.hid (nsB_ok hq).1
    clear hq
    by_cases h1 : nm.size ≤ 100
    · have d1 : decide ((100 : Int) < (nm.size : Int)) = false := decide_eq_false (by omega)
      by_cases h2 : sb.size ≤ 100
      · have d2 : decide ((100 : Int) < (sb.size : Int)) = false := decide_eq_false (by omega)
        obtain ⟨b0, b1, b2, b3, bl⟩ := HN3.out.facts4
        go_wp2_with (fail)
        clear b0 b1 b2 b3 bl
        obtain ⟨wq, hwq⟩ : ∃ wq : World, w3.alloc (.cells #[.int .i64 (k % 12), .int .i64 n, .string nm, .string sb, .slice none 0 0] 24) = wq := ⟨_, rfl⟩
        have hxn := Blk.new w3 24 #[.int .i64 (k % 12), .int .i64 n, .string nm, .string sb, .slice none 0 0]
        have hon : Only [] w3 (w3.alloc (.cells #[.int .i64 (k % 12), .int .i64 n, .string nm, .string sb, .slice none 0 0] 24)) := (Only.refl [] w3).alloc _
        rw [hwq] at hxn hon ⊢
        clear hwq
        obtain ⟨xb, hxb⟩ : ∃ xb, w3.heap.size = xb := ⟨_, rfl⟩
        rw [hxb] at hxn ⊢
        clear hxb
        have HXr := Lib.hid hxn
        have HO4 := Lib.hid (HO3.out.trans hon (by simp))
        have HN4 := Lib.hid (hon.blk HN3.out (by simp))
        have HNr := HN4
        clear hxn hon
        have HLW := Lib.hid (HL0.out.mono HO4.out.size)
        have HPL := Lib.hid (show ∀ (i : Nat) e, ports[i]? = some e → ∀ p, A2 = some p → p.block < wq.heap.size from fun i e he p hp => Nat.lt_of_lt_of_le (HP0.out i e he p hp) HO4.out.size)
        have HB6 := Lib.hid HO4.out.size
        have HLE := Lib.hid (fun W => (show Lies W (.mk (k % 12) n nm sb none 0 []) from .mk ⟨by omega, by omega⟩ hn hnm hsb (by simp) (fun i e h => by simp at h) (fun e h => by simp at h)))
        obtain ⟨pe, hpe⟩ : ∃ pe, (Ex.mk (k % 12) n nm sb none 0 []).tr.type ⟨vars.map Vr.tr, ports.map Pr.tr, bag, of.map Vr.tr⟩ = pe := ⟨_, rfl⟩
        have CO := Lib.hid (fun W (o : Only [] wq W) => (show Calls Tryd.prog 11 #[.agg #[.slice A1 vars.length c1, .slice A2 ports.length c2, .bool bag, .slice A3 of.length c3]] W (fun r w' => ∃ A1' c1' A3' c3', r = .returned (.agg #[.slice A1' vars.length c1', .slice A2 ports.length c2, .bool bag, .slice A3' of.length c3']) ∧ LiesN w' A1' vars A2 ports A3' of ∧ (∀ p, A1' = some p → W.heap.size ≤ p.block) ∧ (∀ p, A3' = some p → W.heap.size ≤ p.block) ∧ Only [] W w') from of_any (A1 := A1) (A2 := A2) (A3 := A3) (vars := vars) (ports := ports) (of := of) (c1 := c1) (c2 := c2) (bag := bag) (c3 := c3) (by have := HOK.out.l1; omega) (by have := HOK.out.l3; omega) (HNM.out.keep (HO4.out.trans o (by simp)))))
        have CT := Lib.hid (fun A1' c1' A3' c3' W (o : Only [] wq W) (hl : LiesN W A1' vars A2 ports A3' of) => (show Calls Tryd.prog 10 #[.agg #[.int .i64 (k % 12), .int .i64 n, .string nm, .string sb, .slice none 0 0], .agg #[.slice A1' vars.length c1', .slice A2 ports.length c2, .bool bag, .slice A3' of.length c3']] W fun r w' => RK w.heap.size W pe r w' from by rw [← hpe]; exact type_any (B0 := w.heap.size) (c1 := c1') (c2 := c2) (bag := bag) (c3 := c3') (e := .mk (k % 12) n nm sb none 0 []) HOK.out (HO4.out.trans o (by simp)).size (HLE.out W) (HWD.out.keep (HO4.out.trans o (by simp))) hl))
        have CR := Lib.hid (fun W (o : Only [] wq W) => (show Calls Tryd.prog 14 #[.agg #[.int .i64 (k % 12), .int .i64 n, .string nm, .string sb, .slice none 0 0], .agg #[.slice A1 vars.length c1, .slice A2 ports.length c2, .bool bag, .slice A3 of.length c3]] W fun r w' => RK w.heap.size W pe r w' from by rw [← hpe]; exact reftype_any (B0 := w.heap.size) (c1 := c1) (c2 := c2) (bag := bag) (c3 := c3) (e := .mk (k % 12) n nm sb none 0 []) HOK.out HL0.out (HO4.out.trans o (by simp)).size (HLE.out W) (HNM.out.keep (HO4.out.trans o (by simp)))))
        clear hpe
        refine (wpIn_wide (n := 9)).1 ?_
        refine wpIn_region_relG 9 (RelF wq.heap.size) (V9 wq) (FL w.heap.size wq pe (.agg #[.int .i64 (k % 12), .int .i64 n, .string nm, .string sb, .slice none 0 0]) (.agg #[.slice A1 vars.length c1, .slice A2 ports.length c2, .bool bag, .slice A3 of.length c3]) (OfAt vars ports of A2 c2 bag)) none (fr := ?frt5) (tl := ?tlt5) (.inl rfl) (by kernel_rfl) (by kernel_rfl) (by kernel_rfl) (by kernel_rfl) (by kernel_rfl) (by kernel_rfl) (by decide) ?htlt5 ?hfrt5 (RelF.of (Only.refl _ _)) (fun _ _ _ h k => h.trans k) (fun tb hg => by cases hg) ?stepst5 ?donet5
        case htlt5 => simp only [List.drop_succ_cons, List.drop_zero]; rfl
        case hfrt5 => intro vals; simp only [putAll, dstAt, Act.put, List.getElem?_toArray, List.getElem?_cons_zero, List.getElem?_cons_succ, Option.bind_some, List.setIfInBounds_toArray, List.set_cons_zero, List.set_cons_succ]; rfl
        case stepst5 =>
          refine ⟨?_, ?_, ?_, ?_, ?_, ?_, ?_, ?_, ?_, trivial⟩
          · intro g vals wr hR hV hp K hK
            dsimp only at hK ⊢
            replace hR := hR.only (Nat.le_refl _)
            clear hp
            unfold RunsOp
            obtain ⟨k0, k1, k2, k3, k4, kl⟩ := (hR.blk (Blk.drew HXr.out) (by simp)).facts5
            go_simp
            exact hK.out _ _ ⟨_, g, rfl, RelF.of (Only.refl _ _), hV, rfl, fun _ _ _ _ h => h⟩
          · intro g vals wr hR hV hp K hK
            dsimp only at hK ⊢
            replace hR := hR.only (Nat.le_refl _)
            clear hp
            unfold RunsOp
            obtain ⟨k0, k1, k2, k3, kl⟩ := (hR.blk (Blk.drew HNr.out) (by simp)).facts4
            go_simp
            exact hK.out _ _ ⟨_, g, rfl, RelF.of (Only.refl _ _), hV, rfl, fun _ _ _ _ h => h⟩
          · intro g vals wr hR hV hp K hK
            dsimp only at hK ⊢
            replace hR := hR.only (Nat.le_refl _)
            obtain ⟨p1, -⟩ := hp
            replace p1 := p1 rfl
            replace p1 : vals 1 = .agg #[.slice A1 vars.length c1, .slice A2 ports.length c2, .bool bag, .slice A3 of.length c3] := p1
            rw [p1] at hK ⊢
            clear p1
            unfold RunsOp
            have HV := Lib.hid hV
            clear hV
            go_simp
            refine (CO.out _ ((Only.refl [] _).drew.trans hR (by simp))).mono ?_
            rintro e' w2 ⟨A1', c1', A3', c3', rfl, hl, n1', n3', o2⟩
            exact hK.out _ _ ⟨_, g, rfl, RelF.of o2, HV.out.keep o2, ⟨A1', c1', A3', c3', rfl, hl, fun tb hg => by obtain ⟨h1, c0, c1, h1'⟩ := HV.out tb hg; have h2 := h1'.lt; exact ⟨fun i e he p hp => by have := n1' p hp; omega, fun i e he p hp => by have := n3' p hp; omega⟩⟩, fun _ _ _ _ h => FL.keep o2 (OfAt.keep o2) h⟩
          · intro g vals wr hR hV hp K hK
            dsimp only at hK ⊢
            replace hR := hR.only (Nat.le_refl _)
            obtain ⟨p0, p2, -, -⟩ := hp
            replace p0 := p0 rfl
            replace p2 := p2 rfl
            replace p0 : vals 0 = .agg #[.int .i64 (k % 12), .int .i64 n, .string nm, .string sb, .slice none 0 0] := p0
            obtain ⟨A1', c1', A3', c3', e2, hl2, -⟩ := p2
            rw [p0, e2] at hK ⊢
            clear p0 e2
            unfold RunsOp
            have HV := Lib.hid hV
            have HL2 := Lib.hid hl2
            clear hV hl2
            go_simp
            refine (CT.out _ _ _ _ _ ((Only.refl [] _).drew.trans hR (by simp)) HL2.out).mono ?_
            rintro e' w2 ⟨yk, yA, ycap, yl, rfl, hc, o2⟩
            exact hK.out _ _ ⟨_, g, rfl, RelF.of o2, HV.out.keep o2, ⟨yk, yA, ycap, yl, rfl, hc.low hR.size, fun tb hg hm => by obtain ⟨h1, c0, c1, h1'⟩ := HV.out tb hg; have h2 := h1'.lt; have h3 := HB6.out; rcases hc.off tb hm with h | h <;> omega⟩, fun _ _ _ _ h => FL.keep o2 (OfAt.keep o2) h⟩
          · intro g vals wr hR hV hp K hK
            dsimp only at hK ⊢
            replace hR := hR.only (Nat.le_refl _)
            obtain ⟨p3, -⟩ := hp
            replace p3 := p3 rfl
            obtain ⟨yk, yA, ycap, yl, e3, hc3, hn3⟩ := p3
            rw [e3] at hK ⊢
            clear e3
            unfold RunsOp
            have HC := Lib.hid (And.intro hc3 hn3)
            clear hc3 hn3
            go_simp
            exact hK.out _ _ ⟨_, g, rfl, RelF.of (Only.refl _ _), hV, ⟨yk, yA, ycap, yl, rfl, HC.out.1, HC.out.2⟩, fun _ _ _ _ h => h⟩
          · intro g vals wr hR hV hp K hK
            dsimp only at hK ⊢
            replace hR := hR.only (Nat.le_refl _)
            obtain ⟨p4, -⟩ := hp
            replace p4 := p4 rfl
            obtain ⟨yk, yA, ycap, yl, e4, hc4, hn4⟩ := p4
            rw [e4] at hK ⊢
            clear e4
            unfold RunsOp
            have HC := Lib.hid (And.intro hc4 hn4)
            clear hc4 hn4
            go_simp
            exact hK.out _ _ ⟨_, g, rfl, RelF.of (Only.refl _ _), hV, ⟨yk, yA, ycap, yl, rfl, HC.out.1, HC.out.2⟩, fun _ _ _ _ h => h⟩
          · intro g vals wr hR hV hp K hK
            dsimp only at hK ⊢
            replace hR := hR.only (Nat.le_refl _)
            obtain ⟨p4, -, -⟩ := hp
            replace p4 := p4 rfl
            obtain ⟨yk, yA, ycap, yl, e4, hc4, hn4⟩ := p4
            rw [e4] at hK ⊢
            clear e4
            unfold RunsOp
            clear hc4 hn4
            go_simp
            exact hK.out _ _ ⟨_, g, rfl, RelF.of (Only.refl _ _), hV, rfl, fun _ _ _ _ h => h⟩
          · intro g vals wr hR hV hp K hK
            dsimp only at hK ⊢
            replace hR := hR.only (Nat.le_refl _)
            clear hp
            unfold RunsOp
            have HV := Lib.hid hV
            clear hV
            have ho := (show Only [] wr (wr.alloc (.cells #[.int .i64 0, .slice none 0 0] 34)) from (Only.refl _ _).alloc _)
            have hb := Blk.new wr 34 #[.int .i64 0, .slice none 0 0]
            have HH := Lib.hid (And.intro ho (And.intro hb hR.size))
            clear ho hb
            go_simp
            exact hK.out _ _ ⟨_, some wr.heap.size, rfl, RelF.of HH.out.1, fun tb hg => by injection hg with hg; subst hg; exact ⟨HH.out.2.2, _, _, HH.out.2.1⟩, ⟨_, rfl, rfl⟩, fun j u hj hn h => FL.laid hj (fun e => by subst e; exact Bool.noConfusion ((show _ = true by kernel_rfl).symm.trans hn)) HH.out.1 (OfAt.laid HH.out.1) h⟩
          · intro g vals wr hR hV hp K hK
            dsimp only at hK ⊢
            replace hR := hR.only (Nat.le_refl _)
            obtain ⟨p7, p5, -, -, -, -, -, -, -, -, -, -⟩ := hp
            replace p7 := p7 rfl
            replace p5 := p5 rfl
            obtain ⟨tb, hg, e7⟩ := p7
            obtain ⟨yk, yA, ycap, yl, e5, hc5, hn5⟩ := p5
            rw [e7, e5] at hK ⊢
            clear e7 e5
            unfold RunsOp
            obtain ⟨hvl, c0, c1, hvb⟩ := hV tb hg
            obtain ⟨t0, t1, tl⟩ := hvb.facts2
            have tg0 := hvb.frozen 0
            have tg1 := hvb.frozen 1
            have ho : Only [tb] wr ((wr.setCell ⟨tb, 0, none⟩ (.int .i64 yk)).setCell ⟨tb, 1, none⟩ (.slice yA yl.length ycap)) := ((Only.refl [tb] wr).setCell (.inl (by simp)) _).setCell (.inl (by simp)) _
            have hb := (hvb.set_ 0 (.int .i64 yk)).set_ 1 (.slice yA yl.length ycap)
            have HC := Lib.hid (And.intro hc5 (hn5 tb hg))
            have HH := Lib.hid (And.intro ho (And.intro hb (And.intro hvl hV)))
            clear ho hb hvb hV hc5 hn5 hvl
            go_simp
            exact hK.out _ _ ⟨.int .i64 0, g, rfl, ⟨[tb], fun x hx => by simp at hx; subst hx; exact HH.out.2.2.1, HH.out.1⟩, fun tb' hg' => by obtain rfl : tb = tb' := (by rw [hg] at hg'; injection hg'); exact ⟨HH.out.2.2.1, _, _, HH.out.2.1⟩, ⟨tb, yk, yA, ycap, yl, hg, HH.out.2.1, ⟨HC.out.1.tr, HC.out.1.lies.only HH.out.1 (fun x hx hm => by simp at hm; subst hm; exact HC.out.2 hx), HC.out.1.off⟩, HC.out.2⟩, fun _ _ hj _ h => FL.set hg hj HH.out.1 (OfAt.set HLW.out HPL.out HH.out.2.2.1 hg HH.out.1) h⟩
        case donet5 =>
          intro g vals wd hR hV hF
          have f6 : vals 6 = .int .i64 pe.2 := hF 6 (by decide)
          obtain ⟨tb, hg, f7⟩ := hF 7 (by decide)
          obtain ⟨tb', yk, yA, ycap, yl, hg', hTB, hTK, hnb⟩ := hF 8 (by decide)
          obtain rfl : tb = tb' := (by rw [hg] at hg'; injection hg')
          have HTL := Lib.hid (hV tb hg).1
          replace hR := hR.only (Nat.le_refl _)
          rw [f6, f7]
          clear f6 f7
          have HR := Lib.hid ((Only.refl [] _).drew.trans hR (by simp))
          have HTB := Lib.hid hTB
          have HTK := Lib.hid hTK
          have HNB := Lib.hid hnb
          clear hR hV hF hg hg' hTK hnb hTB
          have HX5 := Lib.hid (HR.out.blk HXr.out (by simp))
          have HN5 := Lib.hid (HR.out.blk HNr.out (by simp))
          have HO5 := Lib.hid (HO4.out.trans HR.out (by simp))
          obtain ⟨x0, x1, x2, x3, x4, xl⟩ := HX5.out.facts5
          obtain ⟨b0, b1, b2, b3, bl⟩ := HN5.out.facts4
          gi_wp2_with (fail)
          go_wp2_with (fail)
          refine (CR.out _ HR.out).mono ?_
          rintro r w5 ⟨zk, zA, zcap, zl, rfl, hz, o5⟩
          have HZT := Lib.hid (And.intro hz.tr (hz.lies.keep ((Only.refl [] w5).alloc (.cells #[.int .i64 zk, .slice zA zl.length zcap] 34))))
          have HOA := Lib.hid (show Only [] w5 (w5.alloc (.cells #[.int .i64 zk, .slice zA zl.length zcap] 34)) from (Only.refl [] w5).alloc _)
          have HYT := Lib.hid (And.intro HTK.out.tr ((HTK.out.lies.keep o5).keep HOA.out))
          have CC := Lib.hid (refsameT (.mk yk yA ycap yl) (.mk zk zA zcap zl) _ HYT.out.2 HZT.out.2)
          rw [HYT.out.1, HZT.out.1, show pe.1.same pe.1 = true from (Tt.same_iff _ _).2 rfl] at CC
          have HO6 := Lib.hid (HO5.out.trans o5 (by simp))
          have HTB5 := Lib.hid (o5.blk HTB.out (by simp))
          obtain ⟨t0, t1, tl⟩ := HTB5.out.facts2
          clear hz o5 x0 x1 x2 x3 x4 xl
          clear b0 b1 b2 b3 bl
          obtain ⟨p2, hp2⟩ : ∃ p2, pe.2 = p2 := ⟨_, rfl⟩
          rw [hp2]
          clear hp2
          go_wp2_with (fail)
          refine CC.out.mono ?_
          rintro r w6 ⟨rfl, o6⟩
          go_wp2_with (fail)
          go_ret
          exact ⟨rfl, (HO6.out.trans HOA.out (by simp)).trans o6 (by simp)⟩
      · have d2 : decide ((100 : Int) < (sb.size : Int)) = true := decide_eq_true (by omega)
        go_wp2_with (fail)
        refine (awake_any (HWD.out.keep HO3.out)).mono ?_
        rintro r w9 ⟨rfl, o9⟩
        go_wp2_with (fail)
        go_ret
        exact ⟨rfl, HO3.out.trans o9 (by simp)⟩
    · have d1 : decide ((100 : Int) < (nm.size : Int)) = true := decide_eq_true (by omega)
      go_wp2_with (fail)
      refine (awake_any (HWD.out.keep HO3.out)).mono ?_
      rintro r w9 ⟨rfl, o9⟩
      go_wp2_with (fail)
      go_ret
      exact ⟨rfl, HO3.out.trans o9 (by simp)⟩
end Go.Proofs.YtjhpckeoackblaaDoor
