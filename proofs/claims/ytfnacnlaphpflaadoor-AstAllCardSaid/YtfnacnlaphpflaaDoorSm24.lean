/- Small. -/
import Derived.Test.YtfnacnlaphpflaaDoorSml
import Derived.Test.YtfnacnlaphpflaaDoorFactsR
namespace Go.Proofs.YtfnacnlaphpflaaDoor
open Go.RowKit Go.Kx
open Go.Val (Tt)
set_option maxRecDepth 100000
/-- the expressions of a model, as Small goes through them -/
def Em.es : Em → List Ex := fun x => x.e_ :: x.i_
def Md.es (m : Md) : List Ex := m.vars_.map Se.e_ ++ m.int_.map Se.e_ ++ m.ext_.map Se.e_ ++ m.own_.map Se.e_ ++ m.ta_ ++ m.emits_.flatMap Em.es ++ m.rules_.map Ru.e_
/-- a program that is looked at -/
def smallP (ms : List Md) : Prop := (ms.flatMap Md.es).length ≤ 600 ∧ ∀ e ∈ ms.flatMap Md.es, e.sm = true
set_option maxHeartbeats 32000000 in
theorem small_any {A : Option Addr} {c : Nat} {models : List Md} {root : ByteArray} {w : World} (hR : RowX Md.cs 14 Md.Li w A models) :
    Calls Tryd.prog 24 #[.agg #[.slice A models.length c, .string root]] w fun r w' => (r = .returned (.int .i64 0) ∨ (r = .returned (.int .i64 1) ∧ smallP models)) ∧ Only [] w w' := by
  have hlen := hR.len
  have HR := Lib.hid hR
  have HPB := Lib.hid (Blk.new w 39 #[.slice A models.length c, .string root])
  have HO1 := Lib.hid (show Only [] w (w.alloc (.cells #[.slice A models.length c, .string root] 39)) from (Only.refl _ _).alloc _)
  clear hR
  obtain ⟨p0, p1, pl⟩ := HPB.out.facts2
  by_cases h60 : 60 < models.length
  · have e1 : decide (60 < models.length) = true := decide_eq_true h60
    have e2 : decide ((60 : Int) < (models.length : Int)) = true := decide_eq_true (by omega)
    go_enter Tryd.func24, Tryd.ntmps24
    go_wp2_with (fail)
    go_ret
    exact ⟨.inl rfl, HO1.out⟩
  · have e1 : decide (60 < models.length) = false := decide_eq_false h60
    have e2 : decide ((60 : Int) < (models.length : Int)) = false := decide_eq_false (by omega)
    go_enter Tryd.func24, Tryd.ntmps24
    go_wp2_with (fail)
    obtain ⟨w1, hw1⟩ : ∃ W : World, w.alloc (.cells #[.slice A models.length c, .string root] 39) = W := ⟨_, rfl⟩
    rw [hw1] at HPB HO1 ⊢
    clear hw1 p0 p1 pl e1 e2
    go_loopw [3, 4, 6, 7, 8, 9] (fun x i a6 a7 a8 a9 wr => ∃ (k : Nat) (z : Int) (v6 v7 v8 v9 : Value), i = .int .i64 k ∧ x = .int .i64 z ∧ a6 = v6 ∧ a7 = v7 ∧ a8 = v8 ∧ a9 = v9 ∧ k ≤ models.length ∧ -1 ≤ z ∧ z ≤ 600 ∧ Hid (Rm 600 z ((models.take k).flatMap Md.es)) ∧ Hid (Only [] w1 wr)) (fun _ i _ _ _ _ _ => models.length - (intOf i).toNat)
    case atStart => exact ⟨0, 600, _, _, _, _, rfl, rfl, rfl, rfl, rfl, rfl, Nat.zero_le _, by omega, by omega, Lib.hid (by rw [List.take_zero]; exact Rm.nil (by omega)), Lib.hid (Only.refl _ _)⟩
    case round =>
      obtain ⟨k, z, v6, v7, v8, v9, rfl, rfl, rfl, rfl, rfl, rfl, hk, hz1, hz2, HRM, HOr⟩ := hrel
      obtain ⟨p0, p1, pl⟩ := (HOr.out.blk HPB.out (by simp)).facts2
      by_cases hlt : k < models.length
      · have hki : (k : Int) < (models.length : Int) := by omega
        by_cases hz0 : 0 ≤ z
        · have dz : decide (0 ≤ z) = true := decide_eq_true hz0
          obtain ⟨e, he⟩ : ∃ e, models[k]? = some e := ⟨_, List.getElem?_eq_getElem hlt⟩
          have hsub := Md.Li.keep _ _ _ (HR.out.sub e (List.mem_of_getElem? he)) (HO1.out.trans HOr.out (by simp))
          have hrow := (HR.out.row k _ he).keep (HO1.out.trans HOr.out (by simp))
          have HMES0 := Lib.hid (show (models.take k).flatMap Md.es ++ e.es = (models.take (k + 1)).flatMap Md.es from by rw [List.take_add_one, he, List.flatMap_append]; simp)
          obtain ⟨xn, xcp, xinsA, xinsc, xinsl, xoutsA, xoutsc, xoutsl, xvarsA, xvarsc, xvarsl, xtaA, xtac, xtal, xemitsA, xemitsc, xemitsl, xintA, xintc, xintl, xextA, xextc, xextl, xcon, xownA, xownc, xownl, xpartsA, xpartsc, xpartsl, xlinksA, xlinksc, xlinksl, xrulesA, xrulesc, xrulesl⟩ := e
          obtain ⟨b, o, hyb, hb, c0, c1, c2, c3, c4, c5, c6, c7, c8, c9, c10, c11, c12, c13⟩ := Md.at_cells hrow
          cases hyb
          have HMES := Lib.hid (show (models.take k).flatMap Md.es ++ (xvarsl.map Se.e_ ++ xintl.map Se.e_ ++ xextl.map Se.e_ ++ xownl.map Se.e_) ++ xtal ++ xemitsl.flatMap Em.es ++ xrulesl.map Ru.e_ = (models.take (k + 1)).flatMap Md.es from by rw [← HMES0.out]; simp only [Md.es, Md.vars_, Md.int_, Md.ext_, Md.own_, Md.ta_, Md.emits_, Md.rules_, List.append_assoc])
          obtain ⟨-, -, hins, houts, hvars, hta, hem, hint, hext, -, hown, -, -, hru⟩ := hsub
          have ik0 : (0 : Int) ≤ (k : Int) := by omega
          obtain ⟨wo, hwo⟩ : ∃ wo : World, wo = wr := ⟨_, rfl⟩
          subst hwo
          have HMB := Lib.hid (Blk.new wo 70 #[.string xn, .bool xcp, .slice xinsA xinsl.length xinsc, .slice xoutsA xoutsl.length xoutsc, .slice xvarsA xvarsl.length xvarsc, .slice xtaA xtal.length xtac, .slice xemitsA xemitsl.length xemitsc, .slice xintA xintl.length xintc, .slice xextA xextl.length xextc, .int .i64 xcon, .slice xownA xownl.length xownc, .slice xpartsA xpartsl.length xpartsc, .slice xlinksA xlinksl.length xlinksc, .slice xrulesA xrulesl.length xrulesc])
          have HOM := Lib.hid (show Only [] wo (wo.alloc (.cells #[.string xn, .bool xcp, .slice xinsA xinsl.length xinsc, .slice xoutsA xoutsl.length xoutsc, .slice xvarsA xvarsl.length xvarsc, .slice xtaA xtal.length xtac, .slice xemitsA xemitsl.length xemitsc, .slice xintA xintl.length xintc, .slice xextA xextl.length xextc, .int .i64 xcon, .slice xownA xownl.length xownc, .slice xpartsA xpartsl.length xpartsc, .slice xlinksA xlinksl.length xlinksc, .slice xrulesA xrulesl.length xrulesc] 70)) from (Only.refl _ _).alloc _)
          have HOA := Lib.hid (show Only [] w (wo.alloc (.cells #[.string xn, .bool xcp, .slice xinsA xinsl.length xinsc, .slice xoutsA xoutsl.length xoutsc, .slice xvarsA xvarsl.length xvarsc, .slice xtaA xtal.length xtac, .slice xemitsA xemitsl.length xemitsc, .slice xintA xintl.length xintc, .slice xextA xextl.length xextc, .int .i64 xcon, .slice xownA xownl.length xownc, .slice xpartsA xpartsl.length xpartsc, .slice xlinksA xlinksl.length xlinksc, .slice xrulesA xrulesl.length xrulesc] 70)) from (HO1.out.trans HOr.out (by simp)).trans HOM.out (by simp))
          have HW1 := Lib.hid (show Only [] w1 wo from HOr.out)
          have HPS := Lib.hid (And.intro hins (And.intro houts (And.intro hvars (And.intro hint (And.intro hext hown)))))
          have HTA0 := Lib.hid hta
          have HEM0 := Lib.hid hem
          have HRU0 := Lib.hid hru
          clear he hrow hins houts hvars hint hext hown hta hem hru
          by_cases f1 : 100 < xpartsl.length
          · have f1a : decide (100 < xpartsl.length) = true := decide_eq_true f1
            have f1b : decide ((100 : Int) < (xpartsl.length : Int)) = true := decide_eq_true (by omega)
            go_wp2_with (fail)
            go_ret
            exact ⟨.inl rfl, HOA.out⟩
          · have f1a : decide (100 < xpartsl.length) = false := decide_eq_false f1
            have f1b : decide ((100 : Int) < (xpartsl.length : Int)) = false := decide_eq_false (by omega)
            by_cases f2 : 300 < xlinksl.length
            · have f2a : decide (300 < xlinksl.length) = true := decide_eq_true f2
              have f2b : decide ((300 : Int) < (xlinksl.length : Int)) = true := decide_eq_true (by omega)
              go_wp2_with (fail)
              go_ret
              exact ⟨.inl rfl, HOA.out⟩
            · have f2a : decide (300 < xlinksl.length) = false := decide_eq_false f2
              have f2b : decide ((300 : Int) < (xlinksl.length : Int)) = false := decide_eq_false (by omega)
              by_cases f3 : 100 < xrulesl.length
              · have f3a : decide (100 < xrulesl.length) = true := decide_eq_true f3
                have f3b : decide ((100 : Int) < (xrulesl.length : Int)) = true := decide_eq_true (by omega)
                go_wp2_with (fail)
                go_ret
                exact ⟨.inl rfl, HOA.out⟩
              · have f3a : decide (100 < xrulesl.length) = false := decide_eq_false f3
                have f3b : decide ((100 : Int) < (xrulesl.length : Int)) = false := decide_eq_false (by omega)
                by_cases f4 : 100 < xemitsl.length
                · have f4a : decide (100 < xemitsl.length) = true := decide_eq_true f4
                  have f4b : decide ((100 : Int) < (xemitsl.length : Int)) = true := decide_eq_true (by omega)
                  go_wp2_with (fail)
                  go_ret
                  exact ⟨.inl rfl, HOA.out⟩
                · have f4a : decide (100 < xemitsl.length) = false := decide_eq_false f4
                  have f4b : decide ((100 : Int) < (xemitsl.length : Int)) = false := decide_eq_false (by omega)
                  by_cases f5 : 100 < xtal.length
                  · have f5a : decide (100 < xtal.length) = true := decide_eq_true f5
                    have f5b : decide ((100 : Int) < (xtal.length : Int)) = true := decide_eq_true (by omega)
                    go_wp2_with (fail)
                    go_ret
                    exact ⟨.inl rfl, HOA.out⟩
                  · have f5a : decide (100 < xtal.length) = false := decide_eq_false f5
                    have f5b : decide ((100 : Int) < (xtal.length : Int)) = false := decide_eq_false (by omega)
                    go_wp2_with (fail)
                    clear c0 c1 c2 c3 c4 c5 c6 c7 c8 c9 c10 c11 c12 c13 hb f1a f1b f2a f2b f3a f3b f4a f4b f5a f5b
                    obtain ⟨wm, hwm⟩ : ∃ W : World, wo.alloc (.cells #[.string xn, .bool xcp, .slice xinsA xinsl.length xinsc, .slice xoutsA xoutsl.length xoutsc, .slice xvarsA xvarsl.length xvarsc, .slice xtaA xtal.length xtac, .slice xemitsA xemitsl.length xemitsc, .slice xintA xintl.length xintc, .slice xextA xextl.length xextc, .int .i64 xcon, .slice xownA xownl.length xownc, .slice xpartsA xpartsl.length xpartsc, .slice xlinksA xlinksl.length xlinksc, .slice xrulesA xrulesl.length xrulesc] 70) = W := ⟨_, rfl⟩
                    rw [hwm] at HMB HOM HOA ⊢
                    clear hwm
                    obtain ⟨mb, hmb⟩ : ∃ mb, wo.heap.size = mb := ⟨_, rfl⟩
                    rw [hmb] at HMB ⊢
                    clear hmb
                    have HZ0 := Lib.hid (show -1 ≤ z - 1 ∧ z - 1 ≤ 1000 from by omega)
                    have CP1 := Lib.hid (fun W (o : Only [] wm W) (room : Int) h0 h1 => ports_any (cap := xinsc) (room := room) (HPS.out.1.keep Po.Li.keep (HOM.out.trans o (by simp))) h0 h1)
                    have CP2 := Lib.hid (fun W (o : Only [] wm W) (room : Int) h0 h1 => ports_any (cap := xoutsc) (room := room) (HPS.out.2.1.keep Po.Li.keep (HOM.out.trans o (by simp))) h0 h1)
                    refine (wpIn_wide (n := 9)).1 ?_
                    refine wpIn_region_relR 8 (Only []) (fr := ?frs10) (tl := ?tls10) (fun iq v wv => match iq with
                      | 0 => v = .pointer (some ⟨mb, 3, none⟩)
                      | 1 => v = .slice xoutsA xoutsl.length xoutsc
                      | 2 => v = .pointer (some ⟨mb, 2, none⟩)
                      | 3 => v = .slice xinsA xinsl.length xinsc
                      | 4 => v = .int .i64 z
                      | 5 => v = .int .i64 (z - 1)
                      | 6 => ∃ zz, v = .int .i64 zz ∧ Rm (z - 1) zz ([])
                      | 7 => ∃ zz, v = .int .i64 zz ∧ Rm (z - 1) zz ([])
                      | _ => True) (.inl rfl) (by kernel_rfl) (by kernel_rfl) (by kernel_rfl) (by kernel_rfl) (by kernel_rfl) (by kernel_rfl) (by decide) ?htls10 ?hfrs10 (Only.refl _ _) (fun _ _ _ h k => h.trans k (fun _ hx => .inl hx)) ?stabs10 ?stepss10 ?dones10
                    case htls10 => simp only [List.drop_succ_cons, List.drop_zero]; rfl
                    case hfrs10 => intro vals; simp only [putAll, dstAt, Act.put, List.getElem?_toArray, List.getElem?_cons_zero, List.getElem?_cons_succ, Option.bind_some, List.setIfInBounds_toArray, List.set_cons_zero, List.set_cons_succ]; rfl
                    case stabs10 =>
                      intro i v wa wb h
                      try dsimp only
                      split <;> first | exact id | (rintro ⟨z', h1, h2⟩; exact ⟨z', h1, h2⟩)
                    case stepss10 =>
                      refine ⟨?_, ?_, ?_, ?_, ?_, ?_, ?_, ?_, trivial⟩
                      · intro vals wr hR hp K hK
                        dsimp only at hK ⊢
                        clear hp
                        unfold RunsOp
                        go_simp
                        exact hK.out _ _ ⟨_, rfl, Only.refl _ _, rfl⟩
                      · intro vals wr hR hp K hK
                        dsimp only at hK ⊢
                        obtain ⟨p0, -⟩ := hp
                        replace p0 := p0 rfl
                        dsimp only at p0
                        rw [p0] at hK ⊢
                        clear p0
                        unfold RunsOp
                        obtain ⟨k0, k1, k2, k3, k4, k5, k6, k7, k8, k9, k10, k11, k12, k13, kl⟩ := (hR.blk (Blk.drew HMB.out) (by simp)).facts14
                        go_simp
                        exact hK.out _ _ ⟨_, rfl, Only.refl _ _, rfl⟩
                      · intro vals wr hR hp K hK
                        dsimp only at hK ⊢
                        clear hp
                        unfold RunsOp
                        go_simp
                        exact hK.out _ _ ⟨_, rfl, Only.refl _ _, rfl⟩
                      · intro vals wr hR hp K hK
                        dsimp only at hK ⊢
                        obtain ⟨p2, -⟩ := hp
                        replace p2 := p2 rfl
                        dsimp only at p2
                        rw [p2] at hK ⊢
                        clear p2
                        unfold RunsOp
                        obtain ⟨k0, k1, k2, k3, k4, k5, k6, k7, k8, k9, k10, k11, k12, k13, kl⟩ := (hR.blk (Blk.drew HMB.out) (by simp)).facts14
                        go_simp
                        exact hK.out _ _ ⟨_, rfl, Only.refl _ _, rfl⟩
                      · intro vals wr hR hp K hK
                        dsimp only at hK ⊢
                        clear hp
                        unfold RunsOp
                        go_simp
                        exact hK.out _ _ ⟨_, rfl, Only.refl _ _, rfl⟩
                      · intro vals wr hR hp K hK
                        dsimp only at hK ⊢
                        obtain ⟨p4, -⟩ := hp
                        replace p4 := p4 rfl
                        dsimp only at p4
                        rw [p4] at hK ⊢
                        clear p4
                        unfold RunsOp
                        have hwr : IntKind.i64.wrap (z - 1) = z - 1 := IntWalk.i64_in _ (by omega)
                        go_simp
                        exact hK.out _ _ ⟨_, rfl, Only.refl _ _, rfl⟩
                      · intro vals wr hR hp K hK
                        dsimp only at hK ⊢
                        obtain ⟨p3, p5, -⟩ := hp
                        replace p3 := p3 rfl
                        replace p5 := p5 rfl
                        dsimp only at p3 p5
                        rw [p3, p5] at hK ⊢
                        clear p3 p5
                        unfold RunsOp
                        go_simp
                        refine (CP1.out _ ((Only.refl [] _).drew.trans hR (by simp)) _ HZ0.out.1 HZ0.out.2).mono ?_
                        rintro e' w2 ⟨z, rfl, h1, o2⟩
                        exact hK.out _ _ ⟨_, rfl, o2, z, rfl, h1⟩
                      · intro vals wr hR hp K hK
                        dsimp only at hK ⊢
                        obtain ⟨p1, p6, -, -⟩ := hp
                        replace p1 := p1 rfl
                        replace p6 := p6 rfl
                        dsimp only at p1 p6
                        obtain ⟨z6, e6, h6⟩ := p6
                        rw [p1, e6] at hK ⊢
                        clear p1 e6
                        unfold RunsOp
                        have HH := Lib.hid h6
                        clear h6
                        go_simp
                        refine (CP2.out _ ((Only.refl [] _).drew.trans hR (by simp)) _ HH.out.low (by have := HH.out.up; have := HZ0.out.2; omega)).mono ?_
                        rintro e' w2 ⟨z, rfl, h1, o2⟩
                        exact hK.out _ _ ⟨_, rfl, o2, z, rfl, (HH.out.app h1).to (by simp)⟩
                    case dones10 =>
                      intro vals wd hR hF
                      have f0 : vals 0 = .pointer (some ⟨mb, 3, none⟩) := hF 0 (by decide)
                      have f1 : vals 1 = .slice xoutsA xoutsl.length xoutsc := hF 1 (by decide)
                      have f2 : vals 2 = .pointer (some ⟨mb, 2, none⟩) := hF 2 (by decide)
                      have f3 : vals 3 = .slice xinsA xinsl.length xinsc := hF 3 (by decide)
                      have f4 : vals 4 = .int .i64 z := hF 4 (by decide)
                      have f5 : vals 5 = .int .i64 (z - 1) := hF 5 (by decide)
                      rw [f0, f1, f2, f3, f4, f5]
                      clear f0 f1 f2 f3 f4 f5
                      obtain ⟨z1, f6, h6⟩ := hF 6 (by decide)
                      obtain ⟨z2, f7, h7⟩ := hF 7 (by decide)
                      rw [f6, f7]
                      have HOP := Lib.hid ((Only.refl [] _).drew.trans hR (by simp))
                      have HR2 := Lib.hid (show Rm 600 z2 ((models.take k).flatMap Md.es) from ((HRM.out.app (show Rm z (z - 1) [] from ⟨by omega, by omega, fun _ => ⟨by simp; omega, by simp⟩⟩)).app h7).to (by simp))
                      have HZ2 := Lib.hid (show -1 ≤ z2 ∧ z2 ≤ 1000 from ⟨h7.low, by have := h7.up; omega⟩)
                      clear hR hF f6 f7 h6 h7
                      obtain ⟨wp, hwp⟩ : ∃ wp : World, wp = wd := ⟨_, rfl⟩
                      subst hwp
                      have HMC := Lib.hid (HOP.out.blk HMB.out (by simp))
                      have HOQ := Lib.hid (HOM.out.trans HOP.out (by simp))
                      have CS1 := Lib.hid (fun W (o : Only [] wp W) (room : Int) h0 h1 => sets_any (cap := xvarsc) (room := room) (HPS.out.2.2.1.keep Se.Li.keep (HOQ.out.trans o (by simp))) h0 h1)
                      have CS2 := Lib.hid (fun W (o : Only [] wp W) (room : Int) h0 h1 => sets_any (cap := xintc) (room := room) (HPS.out.2.2.2.1.keep Se.Li.keep (HOQ.out.trans o (by simp))) h0 h1)
                      have CS3 := Lib.hid (fun W (o : Only [] wp W) (room : Int) h0 h1 => sets_any (cap := xextc) (room := room) (HPS.out.2.2.2.2.1.keep Se.Li.keep (HOQ.out.trans o (by simp))) h0 h1)
                      have CS4 := Lib.hid (fun W (o : Only [] wp W) (room : Int) h0 h1 => sets_any (cap := xownc) (room := room) (HPS.out.2.2.2.2.2.keep Se.Li.keep (HOQ.out.trans o (by simp))) h0 h1)
                      gi_wp2_with (fail)
                      go_wp2_with (fail)
                      have HZ0 := HZ2
                      refine (wpIn_wide (n := 9)).1 ?_
                      refine wpIn_region_relR 13 (Only []) (fr := ?frs11) (tl := ?tls11) (fun iq v wv => match iq with
                        | 0 => v = .pointer (some ⟨mb, 10, none⟩)
                        | 1 => v = .slice xownA xownl.length xownc
                        | 2 => v = .pointer (some ⟨mb, 8, none⟩)
                        | 3 => v = .slice xextA xextl.length xextc
                        | 4 => v = .pointer (some ⟨mb, 7, none⟩)
                        | 5 => v = .slice xintA xintl.length xintc
                        | 6 => v = .pointer (some ⟨mb, 4, none⟩)
                        | 7 => v = .slice xvarsA xvarsl.length xvarsc
                        | 8 => v = .int .i64 z2
                        | 9 => ∃ zz, v = .int .i64 zz ∧ Rm z2 zz (xvarsl.map Se.e_)
                        | 10 => ∃ zz, v = .int .i64 zz ∧ Rm z2 zz (xvarsl.map Se.e_ ++ xintl.map Se.e_)
                        | 11 => ∃ zz, v = .int .i64 zz ∧ Rm z2 zz (xvarsl.map Se.e_ ++ xintl.map Se.e_ ++ xextl.map Se.e_)
                        | 12 => ∃ zz, v = .int .i64 zz ∧ Rm z2 zz (xvarsl.map Se.e_ ++ xintl.map Se.e_ ++ xextl.map Se.e_ ++ xownl.map Se.e_)
                        | _ => True) (.inl rfl) (by kernel_rfl) (by kernel_rfl) (by kernel_rfl) (by kernel_rfl) (by kernel_rfl) (by kernel_rfl) (by decide) ?htls11 ?hfrs11 (Only.refl _ _) (fun _ _ _ h k => h.trans k (fun _ hx => .inl hx)) ?stabs11 ?stepss11 ?dones11
                      case htls11 => simp only [List.drop_succ_cons, List.drop_zero]; rfl
                      case hfrs11 => intro vals; simp only [putAll, dstAt, Act.put, List.getElem?_toArray, List.getElem?_cons_zero, List.getElem?_cons_succ, Option.bind_some, List.setIfInBounds_toArray, List.set_cons_zero, List.set_cons_succ]; rfl
                      case stabs11 =>
                        intro i v wa wb h
                        try dsimp only
                        split <;> first | exact id | (rintro ⟨z', h1, h2⟩; exact ⟨z', h1, h2⟩)
                      case stepss11 =>
                        refine ⟨?_, ?_, ?_, ?_, ?_, ?_, ?_, ?_, ?_, ?_, ?_, ?_, ?_, trivial⟩
                        · intro vals wr hR hp K hK
                          dsimp only at hK ⊢
                          clear hp
                          unfold RunsOp
                          go_simp
                          exact hK.out _ _ ⟨_, rfl, Only.refl _ _, rfl⟩
                        · intro vals wr hR hp K hK
                          dsimp only at hK ⊢
                          obtain ⟨p0, -⟩ := hp
                          replace p0 := p0 rfl
                          dsimp only at p0
                          rw [p0] at hK ⊢
                          clear p0
                          unfold RunsOp
                          obtain ⟨k0, k1, k2, k3, k4, k5, k6, k7, k8, k9, k10, k11, k12, k13, kl⟩ := (hR.blk (Blk.drew HMC.out) (by simp)).facts14
                          go_simp
                          exact hK.out _ _ ⟨_, rfl, Only.refl _ _, rfl⟩
                        · intro vals wr hR hp K hK
                          dsimp only at hK ⊢
                          clear hp
                          unfold RunsOp
                          go_simp
                          exact hK.out _ _ ⟨_, rfl, Only.refl _ _, rfl⟩
                        · intro vals wr hR hp K hK
                          dsimp only at hK ⊢
                          obtain ⟨p2, -⟩ := hp
                          replace p2 := p2 rfl
                          dsimp only at p2
                          rw [p2] at hK ⊢
                          clear p2
                          unfold RunsOp
                          obtain ⟨k0, k1, k2, k3, k4, k5, k6, k7, k8, k9, k10, k11, k12, k13, kl⟩ := (hR.blk (Blk.drew HMC.out) (by simp)).facts14
                          go_simp
                          exact hK.out _ _ ⟨_, rfl, Only.refl _ _, rfl⟩
                        · intro vals wr hR hp K hK
                          dsimp only at hK ⊢
                          clear hp
                          unfold RunsOp
                          go_simp
                          exact hK.out _ _ ⟨_, rfl, Only.refl _ _, rfl⟩
                        · intro vals wr hR hp K hK
                          dsimp only at hK ⊢
                          obtain ⟨p4, -⟩ := hp
                          replace p4 := p4 rfl
                          dsimp only at p4
                          rw [p4] at hK ⊢
                          clear p4
                          unfold RunsOp
                          obtain ⟨k0, k1, k2, k3, k4, k5, k6, k7, k8, k9, k10, k11, k12, k13, kl⟩ := (hR.blk (Blk.drew HMC.out) (by simp)).facts14
                          go_simp
                          exact hK.out _ _ ⟨_, rfl, Only.refl _ _, rfl⟩
                        · intro vals wr hR hp K hK
                          dsimp only at hK ⊢
                          clear hp
                          unfold RunsOp
                          go_simp
                          exact hK.out _ _ ⟨_, rfl, Only.refl _ _, rfl⟩
                        · intro vals wr hR hp K hK
                          dsimp only at hK ⊢
                          obtain ⟨p6, -⟩ := hp
                          replace p6 := p6 rfl
                          dsimp only at p6
                          rw [p6] at hK ⊢
                          clear p6
                          unfold RunsOp
                          obtain ⟨k0, k1, k2, k3, k4, k5, k6, k7, k8, k9, k10, k11, k12, k13, kl⟩ := (hR.blk (Blk.drew HMC.out) (by simp)).facts14
                          go_simp
                          exact hK.out _ _ ⟨_, rfl, Only.refl _ _, rfl⟩
                        · intro vals wr hR hp K hK
                          dsimp only at hK ⊢
                          clear hp
                          unfold RunsOp
                          go_simp
                          exact hK.out _ _ ⟨_, rfl, Only.refl _ _, rfl⟩
                        · intro vals wr hR hp K hK
                          dsimp only at hK ⊢
                          obtain ⟨p7, p8, -⟩ := hp
                          replace p7 := p7 rfl
                          replace p8 := p8 rfl
                          dsimp only at p7 p8
                          rw [p7, p8] at hK ⊢
                          clear p7 p8
                          unfold RunsOp
                          go_simp
                          refine (CS1.out _ ((Only.refl [] _).drew.trans hR (by simp)) _ HZ0.out.1 HZ0.out.2).mono ?_
                          rintro e' w2 ⟨z, rfl, h1, o2⟩
                          exact hK.out _ _ ⟨_, rfl, o2, z, rfl, h1⟩
                        · intro vals wr hR hp K hK
                          dsimp only at hK ⊢
                          obtain ⟨p5, p9, -, -⟩ := hp
                          replace p5 := p5 rfl
                          replace p9 := p9 rfl
                          dsimp only at p5 p9
                          obtain ⟨z9, e9, h9⟩ := p9
                          rw [p5, e9] at hK ⊢
                          clear p5 e9
                          unfold RunsOp
                          have HH := Lib.hid h9
                          clear h9
                          go_simp
                          refine (CS2.out _ ((Only.refl [] _).drew.trans hR (by simp)) _ HH.out.low (by have := HH.out.up; have := HZ0.out.2; omega)).mono ?_
                          rintro e' w2 ⟨z, rfl, h1, o2⟩
                          exact hK.out _ _ ⟨_, rfl, o2, z, rfl, (HH.out.app h1).to (by simp)⟩
                        · intro vals wr hR hp K hK
                          dsimp only at hK ⊢
                          obtain ⟨p3, p10, -, -⟩ := hp
                          replace p3 := p3 rfl
                          replace p10 := p10 rfl
                          dsimp only at p3 p10
                          obtain ⟨z10, e10, h10⟩ := p10
                          rw [p3, e10] at hK ⊢
                          clear p3 e10
                          unfold RunsOp
                          have HH := Lib.hid h10
                          clear h10
                          go_simp
                          refine (CS3.out _ ((Only.refl [] _).drew.trans hR (by simp)) _ HH.out.low (by have := HH.out.up; have := HZ0.out.2; omega)).mono ?_
                          rintro e' w2 ⟨z, rfl, h1, o2⟩
                          exact hK.out _ _ ⟨_, rfl, o2, z, rfl, (HH.out.app h1).to (by simp)⟩
                        · intro vals wr hR hp K hK
                          dsimp only at hK ⊢
                          obtain ⟨p1, p11, -, -⟩ := hp
                          replace p1 := p1 rfl
                          replace p11 := p11 rfl
                          dsimp only at p1 p11
                          obtain ⟨z11, e11, h11⟩ := p11
                          rw [p1, e11] at hK ⊢
                          clear p1 e11
                          unfold RunsOp
                          have HH := Lib.hid h11
                          clear h11
                          go_simp
                          refine (CS4.out _ ((Only.refl [] _).drew.trans hR (by simp)) _ HH.out.low (by have := HH.out.up; have := HZ0.out.2; omega)).mono ?_
                          rintro e' w2 ⟨z, rfl, h1, o2⟩
                          exact hK.out _ _ ⟨_, rfl, o2, z, rfl, (HH.out.app h1).to (by simp)⟩
                      case dones11 =>
                        intro vals wd hR hF
                        have f0 : vals 0 = .pointer (some ⟨mb, 10, none⟩) := hF 0 (by decide)
                        have f1 : vals 1 = .slice xownA xownl.length xownc := hF 1 (by decide)
                        have f2 : vals 2 = .pointer (some ⟨mb, 8, none⟩) := hF 2 (by decide)
                        have f3 : vals 3 = .slice xextA xextl.length xextc := hF 3 (by decide)
                        have f4 : vals 4 = .pointer (some ⟨mb, 7, none⟩) := hF 4 (by decide)
                        have f5 : vals 5 = .slice xintA xintl.length xintc := hF 5 (by decide)
                        have f6 : vals 6 = .pointer (some ⟨mb, 4, none⟩) := hF 6 (by decide)
                        have f7 : vals 7 = .slice xvarsA xvarsl.length xvarsc := hF 7 (by decide)
                        have f8 : vals 8 = .int .i64 z2 := hF 8 (by decide)
                        rw [f0, f1, f2, f3, f4, f5, f6, f7, f8]
                        clear f0 f1 f2 f3 f4 f5 f6 f7 f8
                        obtain ⟨z3, f9, h9⟩ := hF 9 (by decide)
                        obtain ⟨z4, f10, h10⟩ := hF 10 (by decide)
                        obtain ⟨z5, f11, h11⟩ := hF 11 (by decide)
                        obtain ⟨z6, f12, h12⟩ := hF 12 (by decide)
                        rw [f9, f10, f11, f12]
                        have HRX := Lib.hid (show Rm 600 z6 ((models.take k).flatMap Md.es ++ (xvarsl.map Se.e_ ++ xintl.map Se.e_ ++ xextl.map Se.e_ ++ xownl.map Se.e_)) from HR2.out.app h12)
                        have hzx : -1 ≤ z6 ∧ z6 ≤ 600 := ⟨h12.low, HRX.out.up⟩
                        have HOP2 := Lib.hid ((Only.refl [] _).drew.trans hR (by simp))
                        clear hR hF f9 f10 f11 f12 h9 h10 h11 h12
                        obtain ⟨wn, hwn⟩ : ∃ wn : World, wn = wd := ⟨_, rfl⟩
                        subst hwn
                        have HMN := Lib.hid (HOP2.out.blk HMC.out (by simp))
                        have HON := Lib.hid (HOQ.out.trans HOP2.out (by simp))
                        have HOW := Lib.hid (HW1.out.trans HON.out (by simp))
                        have HOT := Lib.hid (HO1.out.trans HOW.out (by simp))
                        have HTA := Lib.hid (HTA0.out.keep HON.out)
                        have HEM := Lib.hid (HEM0.out.keep Em.Li.keep HON.out)
                        have HRU := Lib.hid (HRU0.out.keep Ru.Li.keep HON.out)
                        obtain ⟨b0, b1, b2, b3, b4, b5, b6, b7, b8, b9, b10, b11, b12, b13, bl⟩ := HMN.out.facts14
                        clear b0 b1 b2 b3 b4 b5 b6 b7 b8 b9 b10 b11 b12 b13 bl
                        gi_wp2_with (fail)
                        go_wp2_with (fail)
                        go_loopw [3, 6] (fun x i wr => ∃ (k6 : Nat) (zt : Int), i = .int .i64 k6 ∧ x = .int .i64 zt ∧ k6 ≤ xtal.length ∧ -1 ≤ zt ∧ zt ≤ 600 ∧ Hid (Rm 600 zt ((models.take k).flatMap Md.es ++ (xvarsl.map Se.e_ ++ xintl.map Se.e_ ++ xextl.map Se.e_ ++ xownl.map Se.e_) ++ xtal.take k6)) ∧ Hid (Only [] wn wr)) (fun _ i _ => xtal.length - (intOf i).toNat)
                        case atStart => exact ⟨0, _, rfl, rfl, Nat.zero_le _, hzx.1, hzx.2, Lib.hid (HRX.out.to (by rw [List.take_zero]; simp)), Lib.hid (Only.refl _ _)⟩
                        case round =>
                          obtain ⟨k6, zt, rfl, rfl, hk6, hz1, hz2, HRX, HON6⟩ := hrel
                          obtain ⟨b0, b1, b2, b3, b4, b5, b6, b7, b8, b9, b10, b11, b12, b13, bl⟩ := (HON6.out.blk HMN.out (by simp)).facts14
                          by_cases hlt : k6 < xtal.length
                          · have hki : (k6 : Int) < (xtal.length : Int) := by omega
                            by_cases hz0 : 0 ≤ zt
                            · have dz : decide (0 ≤ zt) = true := decide_eq_true hz0
                              obtain ⟨e, he⟩ : ∃ e, xtal[k6]? = some e := ⟨_, List.getElem?_eq_getElem hlt⟩
                              have hsub := (HTA.out.sub e (List.mem_of_getElem? he)).keep HON6.out
                              have hrow := (HTA.out.row k6 _ he).only HON6.out (by simp)
                              have HTK := Lib.hid (show xtal.take (k6 + 1) = xtal.take k6 ++ [e] from by rw [List.take_add_one, he]; rfl)
                              obtain ⟨yeo, yen, yes, yeu, yeA, yec, yel⟩ := e
                              obtain ⟨b, o, hyb, hb, c0, c1, c2, c3, c4⟩ := hrow.cells
                              cases hyb
                              have HCB := Lib.hid (show Calls Tryd.prog 11 #[.agg #[.int .i64 yeo, .int .i64 yen, .string yes, .string yeu, .slice yeA yel.length yec], .int .i64 40, .int .i64 zt] wr fun r w' => ∃ z' : Int, r = .returned (.int .i64 z') ∧ Rm zt z' [.mk yeo yen yes yeu yeA yec yel] ∧ Only [] wr w' from (expr_any (.mk yeo yen yes yeu yeA yec yel) wr hsub 40 zt (by omega) hz0 (by omega)).mono (by rintro r w' ⟨rfl, o⟩; exact ⟨_, rfl, Rm.expr hz0, o⟩))
                              have ik0 : (0 : Int) ≤ (k6 : Int) := by omega
                              clear he hsub hrow
                              go_wp2_with (fail)
                              refine HCB.out.mono ?_
                              rintro r w3 ⟨z', rfl, hm, o3⟩
                              have HM3 := Lib.hid ((HRX.out.app hm).to (show ((models.take k).flatMap Md.es ++ (xvarsl.map Se.e_ ++ xintl.map Se.e_ ++ xextl.map Se.e_ ++ xownl.map Se.e_) ++ xtal.take k6) ++ _ = (models.take k).flatMap Md.es ++ (xvarsl.map Se.e_ ++ xintl.map Se.e_ ++ xextl.map Se.e_ ++ xownl.map Se.e_) ++ xtal.take (k6 + 1) from by rw [HTK.out]; simp only [List.append_assoc]))
                              have HZ := Lib.hid (And.intro hm.low hm.up)
                              have HON3 := Lib.hid (HON6.out.trans o3 (by simp))
                              clear hm o3 c0 c1 c2 c3 c4 hb dz b0 b1 b2 b3 b4 b5 b6 b7 b8 b9 b10 b11 b12 b13 bl
                              go_wp2_with (fail)
                              go_roundw
                              case rel => exact ⟨k6 + 1, z', by go_num, rfl, by omega, HZ.out.1, by have := HZ.out.2; omega, HM3, HON3⟩
                              case measure => simp [intOf] <;> omega
                            · have dz : decide (0 ≤ zt) = false := decide_eq_false hz0
                              obtain ⟨zn, hzn⟩ : ∃ zn, zt = zn := ⟨_, rfl⟩
                              have hnn : ¬ 0 ≤ zn := by omega
                              have hn1 : -1 ≤ zn ∧ zn ≤ 600 := by omega
                              have HNG := Lib.hid (show Rm 600 zn ((models.take k).flatMap Md.es ++ (xvarsl.map Se.e_ ++ xintl.map Se.e_ ++ xextl.map Se.e_ ++ xownl.map Se.e_) ++ xtal ++ xemitsl.flatMap Em.es ++ xrulesl.map Ru.e_) from by rw [← hzn]; exact HRX.out.stop (by omega) _)
                              rw [hzn] at dz ⊢
                              clear hzn
                              have HONx := HON6
                              go_wp2_with (fail)
                              clear b0 b1 b2 b3 b4 b5 b6 b7 b8 b9 b10 b11 b12 b13 bl
                              go_loopw [3, 7, 8] (fun x i j wr => x = .int .i64 zn ∧ i = .int .i64 0 ∧ j = j ∧ Hid (Only [] wn wr)) (fun _ i _ _ => 0)
                              case atStart => exact ⟨rfl, rfl, rfl, HONx⟩
                              case round =>
                                obtain ⟨rfl, rfl, -, HONn⟩ := hrel
                                obtain ⟨b0, b1, b2, b3, b4, b5, b6, b7, b8, b9, b10, b11, b12, b13, bl⟩ := (HONn.out.blk HMN.out (by simp)).facts14
                                by_cases hlt : 0 < xemitsl.length
                                · have hki : ((0 : Nat) : Int) < (xemitsl.length : Int) := by omega
                                  have hki2 : (0 : Int) < (xemitsl.length : Int) := by omega
                                  have HONx := HONn
                                  go_wp2_with (fail)
                                  clear b0 b1 b2 b3 b4 b5 b6 b7 b8 b9 b10 b11 b12 b13 bl
                                  go_loopw [3, 9] (fun x i wr => x = .int .i64 zn ∧ i = .int .i64 0 ∧ Hid (Only [] wn wr)) (fun _ i _ => 0)
                                  case atStart => exact ⟨rfl, rfl, HONx⟩
                                  case round =>
                                    obtain ⟨rfl, rfl, HONn⟩ := hrel
                                    obtain ⟨b0, b1, b2, b3, b4, b5, b6, b7, b8, b9, b10, b11, b12, b13, bl⟩ := (HONn.out.blk HMN.out (by simp)).facts14
                                    by_cases hlt : 0 < xrulesl.length
                                    · have hki : ((0 : Nat) : Int) < (xrulesl.length : Int) := by omega
                                      have hki2 : (0 : Int) < (xrulesl.length : Int) := by omega
                                      go_wp2_with (fail)
                                      go_roundw
                                      case rel => exact ⟨k + 1, zn, _, _, _, _, by go_num, rfl, rfl, rfl, rfl, rfl, by omega, by omega, by omega, Lib.hid ((HNG.out).to HMES.out), Lib.hid (HOW.out.trans HONn.out (by simp))⟩
                                      case measure => simp [intOf] <;> omega
                                    · have hl0 : xrulesl.length = 0 := by omega
                                      have iz : ¬ (0 : Int) < (xrulesl.length : Int) := by omega
                                      go_wp2_with (fail)
                                      go_roundw
                                      case rel => exact ⟨k + 1, zn, _, _, _, _, by go_num, rfl, rfl, rfl, rfl, rfl, by omega, by omega, by omega, Lib.hid ((HNG.out).to HMES.out), Lib.hid (HOW.out.trans HONn.out (by simp))⟩
                                      case measure => simp [intOf] <;> omega
                                · have hl0 : xemitsl.length = 0 := by omega
                                  have iz : ¬ (0 : Int) < (xemitsl.length : Int) := by omega
                                  have HONx := HONn
                                  go_wp2_with (fail)
                                  clear b0 b1 b2 b3 b4 b5 b6 b7 b8 b9 b10 b11 b12 b13 bl
                                  go_loopw [3, 9] (fun x i wr => x = .int .i64 zn ∧ i = .int .i64 0 ∧ Hid (Only [] wn wr)) (fun _ i _ => 0)
                                  case atStart => exact ⟨rfl, rfl, HONx⟩
                                  case round =>
                                    obtain ⟨rfl, rfl, HONn⟩ := hrel
                                    obtain ⟨b0, b1, b2, b3, b4, b5, b6, b7, b8, b9, b10, b11, b12, b13, bl⟩ := (HONn.out.blk HMN.out (by simp)).facts14
                                    by_cases hlt : 0 < xrulesl.length
                                    · have hki : ((0 : Nat) : Int) < (xrulesl.length : Int) := by omega
                                      have hki2 : (0 : Int) < (xrulesl.length : Int) := by omega
                                      go_wp2_with (fail)
                                      go_roundw
                                      case rel => exact ⟨k + 1, zn, _, _, _, _, by go_num, rfl, rfl, rfl, rfl, rfl, by omega, by omega, by omega, Lib.hid ((HNG.out).to HMES.out), Lib.hid (HOW.out.trans HONn.out (by simp))⟩
                                      case measure => simp [intOf] <;> omega
                                    · have hl0 : xrulesl.length = 0 := by omega
                                      have iz : ¬ (0 : Int) < (xrulesl.length : Int) := by omega
                                      go_wp2_with (fail)
                                      go_roundw
                                      case rel => exact ⟨k + 1, zn, _, _, _, _, by go_num, rfl, rfl, rfl, rfl, rfl, by omega, by omega, by omega, Lib.hid ((HNG.out).to HMES.out), Lib.hid (HOW.out.trans HONn.out (by simp))⟩
                                      case measure => simp [intOf] <;> omega
                          · obtain rfl : k6 = xtal.length := by omega
                            have iz : ¬ (xtal.length : Int) < (xtal.length : Int) := by omega
                            have HRXF := Lib.hid (HRX.out.to (show _ = (models.take k).flatMap Md.es ++ (xvarsl.map Se.e_ ++ xintl.map Se.e_ ++ xextl.map Se.e_ ++ xownl.map Se.e_) ++ xtal from by rw [List.take_length]))
                            replace HRX := HRXF
                            have HONx := HON6
                            have hzx := And.intro hz1 hz2
                            go_wp2_with (fail)
                            clear b0 b1 b2 b3 b4 b5 b6 b7 b8 b9 b10 b11 b12 b13 bl
                            go_loopw [3, 7, 8] (fun x i j wr => ∃ (k7 : Nat) (ze : Int) (j9 : Value), i = .int .i64 k7 ∧ x = .int .i64 ze ∧ j = j9 ∧ k7 ≤ xemitsl.length ∧ -1 ≤ ze ∧ ze ≤ 600 ∧ Hid (Rm 600 ze ((models.take k).flatMap Md.es ++ (xvarsl.map Se.e_ ++ xintl.map Se.e_ ++ xextl.map Se.e_ ++ xownl.map Se.e_) ++ xtal ++ (xemitsl.take k7).flatMap Em.es)) ∧ Hid (Only [] wn wr)) (fun _ i _ _ => xemitsl.length - (intOf i).toNat)
                            case atStart => exact ⟨0, _, _, rfl, rfl, rfl, Nat.zero_le _, hzx.1, hzx.2, Lib.hid (HRX.out.to (by rw [List.take_zero]; simp)), HONx⟩
                            case round =>
                              obtain ⟨k7, ze, j9, rfl, rfl, rfl, hk7, hz1, hz2, HRX, HON7⟩ := hrel
                              obtain ⟨b0, b1, b2, b3, b4, b5, b6, b7, b8, b9, b10, b11, b12, b13, bl⟩ := (HON7.out.blk HMN.out (by simp)).facts14
                              by_cases hlt : k7 < xemitsl.length
                              · have hki : (k7 : Int) < (xemitsl.length : Int) := by omega
                                by_cases hz0 : 0 ≤ ze
                                · have dz : decide (0 ≤ ze) = true := decide_eq_true hz0
                                  obtain ⟨e, he⟩ : ∃ e, xemitsl[k7]? = some e := ⟨_, List.getElem?_eq_getElem hlt⟩
                                  have hsub := HEM.out.sub e (List.mem_of_getElem? he)
                                  have hrow0 := HEM.out.row k7 _ he
                                  have HTE0 := Lib.hid (show (xemitsl.take (k7 + 1)).flatMap Em.es = (xemitsl.take k7).flatMap Em.es ++ e.es from by rw [List.take_add_one, he, List.flatMap_append]; simp)
                                  obtain ⟨yp, yeo, yen, yes, yeu, yeA, yec, yel, yiA, yic, yil⟩ := e
                                  have HROW := Lib.hid hrow0
                                  have HIF := Lib.hid hsub.2.2
                                  have HLE := Lib.hid hsub.2.1
                                  obtain ⟨b, o, hyb, hb, c0, c1, c2, c3, c4, c5, c6⟩ := Em.at_cells (hrow0.keep HON7.out)
                                  cases hyb
                                  have HCB := Lib.hid (show Calls Tryd.prog 11 #[.agg #[.int .i64 yeo, .int .i64 yen, .string yes, .string yeu, .slice yeA yel.length yec], .int .i64 40, .int .i64 ze] wr fun r w' => ∃ z' : Int, r = .returned (.int .i64 z') ∧ Rm ze z' [.mk yeo yen yes yeu yeA yec yel] ∧ Only [] wr w' from (expr_any (.mk yeo yen yes yeu yeA yec yel) wr (HLE.out.keep HON7.out) 40 ze (by omega) hz0 (by omega)).mono (by rintro r w' ⟨rfl, o⟩; exact ⟨_, rfl, Rm.expr hz0, o⟩))
                                  have ik0 : (0 : Int) ≤ (k7 : Int) := by omega
                                  clear he hsub hrow0
                                  go_wp2_with (fail)
                                  refine HCB.out.mono ?_
                                  rintro r w3 ⟨z', rfl, hm, o3⟩
                                  obtain ⟨LPRE, hpre⟩ : ∃ L, ((models.take k).flatMap Md.es ++ (xvarsl.map Se.e_ ++ xintl.map Se.e_ ++ xextl.map Se.e_ ++ xownl.map Se.e_) ++ xtal ++ (xemitsl.take k7).flatMap Em.es) ++ [Ex.mk yeo yen yes yeu yeA yec yel] = L := ⟨_, rfl⟩
                                  have HM3 := Lib.hid ((HRX.out.app hm).to hpre)
                                  have HTE := Lib.hid (show LPRE ++ yil = (models.take k).flatMap Md.es ++ (xvarsl.map Se.e_ ++ xintl.map Se.e_ ++ xextl.map Se.e_ ++ xownl.map Se.e_) ++ xtal ++ (xemitsl.take (k7 + 1)).flatMap Em.es from by rw [← hpre, HTE0.out, List.append_assoc, List.append_assoc]; rfl)
                                  have HZ3 := Lib.hid (show -1 ≤ z' ∧ z' ≤ 600 from ⟨hm.low, by have := hm.up; omega⟩)
                                  have HON3 := Lib.hid (HON7.out.trans o3 (by simp))
                                  clear hm o3 hpre c0 c1 c2 c3 c4 c5 c6 hb dz b0 b1 b2 b3 b4 b5 b6 b7 b8 b9 b10 b11 b12 b13 bl
                                  obtain ⟨b0, b1, b2, b3, b4, b5, b6, b7, b8, b9, b10, b11, b12, b13, bl⟩ := (HON3.out.blk HMN.out (by simp)).facts14
                                  have e0 := 0
                                  have e6 := 0
                                  have he0b := 0
                                  go_wp2_with (fail)
                                  clear b0 b1 b2 b3 b4 b5 b6 b7 b8 b9 b10 b11 b12 b13 bl
                                  clear e0 e6 he0b
                                  go_loopw [3, 8] (fun x i wr => ∃ (k8 : Nat) (zi : Int), i = .int .i64 k8 ∧ x = .int .i64 zi ∧ k8 ≤ yil.length ∧ -1 ≤ zi ∧ zi ≤ 600 ∧ Hid (Rm 600 zi (LPRE ++ yil.take k8)) ∧ Hid (Only [] wn wr)) (fun _ i _ => yil.length - (intOf i).toNat)
                                  case atStart => exact ⟨0, _, rfl, rfl, Nat.zero_le _, HZ3.out.1, HZ3.out.2, Lib.hid (HM3.out.to (by rw [List.take_zero, List.append_nil])), HON3⟩
                                  case round =>
                                    obtain ⟨k8, zi, rfl, rfl, hk8, hz1, hz2, HRX, HON8⟩ := hrel
                                    have hyl := HIF.out.len
                                    obtain ⟨b0, b1, b2, b3, b4, b5, b6, b7, b8, b9, b10, b11, b12, b13, bl⟩ := (HON8.out.blk HMN.out (by simp)).facts14
                                    obtain ⟨b7, o7, hyb7, hb7, e0, e1, e2, e3, e4, e5, e6⟩ := Em.at_cells (HROW.out.keep HON8.out)
                                    clear e0 e1 e2 e3 e4 e5
                                    cases hyb7
                                    by_cases hlt : k8 < yil.length
                                    · have hki : (k8 : Int) < (yil.length : Int) := by omega
                                      by_cases hz0 : 0 ≤ zi
                                      · have dz : decide (0 ≤ zi) = true := decide_eq_true hz0
                                        obtain ⟨e, he⟩ : ∃ e, yil[k8]? = some e := ⟨_, List.getElem?_eq_getElem hlt⟩
                                        have hsub := (HIF.out.sub e (List.mem_of_getElem? he)).keep HON8.out
                                        have hrow2 := (HIF.out.row k8 _ he).only HON8.out (by simp)
                                        have HTK := Lib.hid (show yil.take (k8 + 1) = yil.take k8 ++ [e] from by rw [List.take_add_one, he]; rfl)
                                        obtain ⟨ueo, uen, ues, ueu, ueA, uec, uel⟩ := e
                                        obtain ⟨b8, o8, hyb8, hb8, d0, d1, d2, d3, d4⟩ := hrow2.cells
                                        subst hyb8
                                        have HCB := Lib.hid (show Calls Tryd.prog 11 #[.agg #[.int .i64 ueo, .int .i64 uen, .string ues, .string ueu, .slice ueA uel.length uec], .int .i64 40, .int .i64 zi] wr fun r w' => ∃ z' : Int, r = .returned (.int .i64 z') ∧ Rm zi z' [.mk ueo uen ues ueu ueA uec uel] ∧ Only [] wr w' from (expr_any (.mk ueo uen ues ueu ueA uec uel) wr hsub 40 zi (by omega) hz0 (by omega)).mono (by rintro r w' ⟨rfl, o⟩; exact ⟨_, rfl, Rm.expr hz0, o⟩))
                                        have ik0 : (0 : Int) ≤ (k8 : Int) := by omega
                                        clear he hsub hrow2
                                        go_wp2_with (fail)
                                        refine HCB.out.mono ?_
                                        rintro r w3 ⟨z', rfl, hm, o3⟩
                                        have HM3 := Lib.hid ((HRX.out.app hm).to (show (LPRE ++ yil.take k8) ++ _ = LPRE ++ yil.take (k8 + 1) from by rw [HTK.out, ← List.append_assoc]))
                                        have HZ := Lib.hid (And.intro hm.low hm.up)
                                        have HON3 := Lib.hid (HON8.out.trans o3 (by simp))
                                        clear hm o3 d0 d1 d2 d3 d4 hb8 dz
                                        go_wp2_with (fail)
                                        go_roundw
                                        case rel => exact ⟨k8 + 1, z', by go_num, rfl, by omega, HZ.out.1, by have := HZ.out.2; omega, HM3, HON3⟩
                                        case measure => simp [intOf] <;> omega
                                      · have dz : decide (0 ≤ zi) = false := decide_eq_false hz0
                                        go_wp2_with (fail)
                                        go_roundw
                                        case rel => exact ⟨k7 + 1, zi, _, by go_num, rfl, rfl, by omega, hz1, hz2, Lib.hid (HRX.out.stop (by omega) _), HON8⟩
                                        case measure => simp [intOf] <;> omega
                                    · obtain rfl : k8 = yil.length := by omega
                                      have iz : ¬ (yil.length : Int) < (yil.length : Int) := by omega
                                      have HRF := Lib.hid (HRX.out.to (show LPRE ++ yil.take yil.length = (models.take k).flatMap Md.es ++ (xvarsl.map Se.e_ ++ xintl.map Se.e_ ++ xextl.map Se.e_ ++ xownl.map Se.e_) ++ xtal ++ (xemitsl.take (k7 + 1)).flatMap Em.es from by rw [List.take_length]; exact HTE.out))
                                      go_wp2_with (fail)
                                      go_roundw
                                      case rel => exact ⟨k7 + 1, zi, _, by go_num, rfl, rfl, by omega, hz1, hz2, Lib.hid (HRF.out), HON8⟩
                                      case measure => simp [intOf] <;> omega
                                · have dz : decide (0 ≤ ze) = false := decide_eq_false hz0
                                  obtain ⟨zn, hzn⟩ : ∃ zn, ze = zn := ⟨_, rfl⟩
                                  have hnn : ¬ 0 ≤ zn := by omega
                                  have hn1 : -1 ≤ zn ∧ zn ≤ 600 := by omega
                                  have HNG := Lib.hid (show Rm 600 zn ((models.take k).flatMap Md.es ++ (xvarsl.map Se.e_ ++ xintl.map Se.e_ ++ xextl.map Se.e_ ++ xownl.map Se.e_) ++ xtal ++ xemitsl.flatMap Em.es ++ xrulesl.map Ru.e_) from by rw [← hzn]; exact HRX.out.stop (by omega) _)
                                  rw [hzn] at dz ⊢
                                  clear hzn
                                  have HONx := HON7
                                  go_wp2_with (fail)
                                  clear b0 b1 b2 b3 b4 b5 b6 b7 b8 b9 b10 b11 b12 b13 bl
                                  go_loopw [3, 9] (fun x i wr => x = .int .i64 zn ∧ i = .int .i64 0 ∧ Hid (Only [] wn wr)) (fun _ i _ => 0)
                                  case atStart => exact ⟨rfl, rfl, HONx⟩
                                  case round =>
                                    obtain ⟨rfl, rfl, HONn⟩ := hrel
                                    obtain ⟨b0, b1, b2, b3, b4, b5, b6, b7, b8, b9, b10, b11, b12, b13, bl⟩ := (HONn.out.blk HMN.out (by simp)).facts14
                                    by_cases hlt : 0 < xrulesl.length
                                    · have hki : ((0 : Nat) : Int) < (xrulesl.length : Int) := by omega
                                      have hki2 : (0 : Int) < (xrulesl.length : Int) := by omega
                                      go_wp2_with (fail)
                                      go_roundw
                                      case rel => exact ⟨k + 1, zn, _, _, _, _, by go_num, rfl, rfl, rfl, rfl, rfl, by omega, by omega, by omega, Lib.hid ((HNG.out).to HMES.out), Lib.hid (HOW.out.trans HONn.out (by simp))⟩
                                      case measure => simp [intOf] <;> omega
                                    · have hl0 : xrulesl.length = 0 := by omega
                                      have iz : ¬ (0 : Int) < (xrulesl.length : Int) := by omega
                                      go_wp2_with (fail)
                                      go_roundw
                                      case rel => exact ⟨k + 1, zn, _, _, _, _, by go_num, rfl, rfl, rfl, rfl, rfl, by omega, by omega, by omega, Lib.hid ((HNG.out).to HMES.out), Lib.hid (HOW.out.trans HONn.out (by simp))⟩
                                      case measure => simp [intOf] <;> omega
                              · obtain rfl : k7 = xemitsl.length := by omega
                                have iz : ¬ (xemitsl.length : Int) < (xemitsl.length : Int) := by omega
                                have HRXF := Lib.hid (HRX.out.to (show _ = (models.take k).flatMap Md.es ++ (xvarsl.map Se.e_ ++ xintl.map Se.e_ ++ xextl.map Se.e_ ++ xownl.map Se.e_) ++ xtal ++ xemitsl.flatMap Em.es from by rw [List.take_length]))
                                replace HRX := HRXF
                                have HONx := HON7
                                have hzx := And.intro hz1 hz2
                                go_wp2_with (fail)
                                clear b0 b1 b2 b3 b4 b5 b6 b7 b8 b9 b10 b11 b12 b13 bl
                                go_loopw [3, 9] (fun x i wr => ∃ (k9 : Nat) (zr : Int), i = .int .i64 k9 ∧ x = .int .i64 zr ∧ k9 ≤ xrulesl.length ∧ -1 ≤ zr ∧ zr ≤ 600 ∧ Hid (Rm 600 zr ((models.take k).flatMap Md.es ++ (xvarsl.map Se.e_ ++ xintl.map Se.e_ ++ xextl.map Se.e_ ++ xownl.map Se.e_) ++ xtal ++ xemitsl.flatMap Em.es ++ (xrulesl.take k9).map Ru.e_)) ∧ Hid (Only [] wn wr)) (fun _ i _ => xrulesl.length - (intOf i).toNat)
                                case atStart => exact ⟨0, _, rfl, rfl, Nat.zero_le _, hzx.1, hzx.2, Lib.hid (HRX.out.to (by rw [List.take_zero]; simp)), HONx⟩
                                case round =>
                                  obtain ⟨k9, zr, rfl, rfl, hk9, hz1, hz2, HRX, HON9⟩ := hrel
                                  obtain ⟨b0, b1, b2, b3, b4, b5, b6, b7, b8, b9, b10, b11, b12, b13, bl⟩ := (HON9.out.blk HMN.out (by simp)).facts14
                                  by_cases hlt : k9 < xrulesl.length
                                  · have hki : (k9 : Int) < (xrulesl.length : Int) := by omega
                                    by_cases hz0 : 0 ≤ zr
                                    · have dz : decide (0 ≤ zr) = true := decide_eq_true hz0
                                      obtain ⟨e, he⟩ : ∃ e, xrulesl[k9]? = some e := ⟨_, List.getElem?_eq_getElem hlt⟩
                                      have hsub := Ru.Li.keep _ _ _ (HRU.out.sub e (List.mem_of_getElem? he)) HON9.out
                                      have hrow := (HRU.out.row k9 _ he).keep HON9.out
                                      have HTK := Lib.hid (show (xrulesl.take (k9 + 1)).map Ru.e_ = (xrulesl.take k9).map Ru.e_ ++ [e.e_] from by rw [List.take_add_one, he, List.map_append]; rfl)
                                      obtain ⟨yeo, yen, yes, yeu, yeA, yec, yel, ysA, ysc, ysl⟩ := e
                                      obtain ⟨b, o, hyb, hb, c0, c1, c2, c3, c4, c5⟩ := Ru.at_cells hrow
                                      subst hyb
                                      have HCB := Lib.hid (show Calls Tryd.prog 11 #[.agg #[.int .i64 yeo, .int .i64 yen, .string yes, .string yeu, .slice yeA yel.length yec], .int .i64 40, .int .i64 zr] wr fun r w' => ∃ z' : Int, r = .returned (.int .i64 z') ∧ Rm zr z' [.mk yeo yen yes yeu yeA yec yel] ∧ Only [] wr w' from (expr_any (.mk yeo yen yes yeu yeA yec yel) wr hsub.1 40 zr (by omega) hz0 (by omega)).mono (by rintro r w' ⟨rfl, o⟩; exact ⟨_, rfl, Rm.expr hz0, o⟩))
                                      have ik0 : (0 : Int) ≤ (k9 : Int) := by omega
                                      clear he hsub hrow
                                      go_wp2_with (fail)
                                      refine HCB.out.mono ?_
                                      rintro r w3 ⟨z', rfl, hm, o3⟩
                                      have HM3 := Lib.hid ((HRX.out.app hm).to (show ((models.take k).flatMap Md.es ++ (xvarsl.map Se.e_ ++ xintl.map Se.e_ ++ xextl.map Se.e_ ++ xownl.map Se.e_) ++ xtal ++ xemitsl.flatMap Em.es ++ (xrulesl.take k9).map Ru.e_) ++ _ = (models.take k).flatMap Md.es ++ (xvarsl.map Se.e_ ++ xintl.map Se.e_ ++ xextl.map Se.e_ ++ xownl.map Se.e_) ++ xtal ++ xemitsl.flatMap Em.es ++ (xrulesl.take (k9 + 1)).map Ru.e_ from by rw [HTK.out]; simp only [List.append_assoc, Ru.e_]))
                                      have HZ := Lib.hid (And.intro hm.low hm.up)
                                      have HON3 := Lib.hid (HON9.out.trans o3 (by simp))
                                      have hc5 := (o3.cell (p := ⟨b, o + k9 * 6 + 5, none⟩) hb (by simp)).trans c5
                                      have hb3 := Nat.lt_of_lt_of_le hb o3.size
                                      clear hm o3 c0 c1 c2 c3 c4 c5 hb dz b0 b1 b2 b3 b4 b5 b6 b7 b8 b9 b10 b11 b12 b13 bl
                                      obtain ⟨b0, b1, b2, b3, b4, b5, b6, b7, b8, b9, b10, b11, b12, b13, bl⟩ := (HON3.out.blk HMN.out (by simp)).facts14
                                      by_cases hac : 100 < ysl.length
                                      · have dac : decide (100 < ysl.length) = true := decide_eq_true hac
                                        have dac2 : decide ((100 : Int) < (ysl.length : Int)) = true := decide_eq_true (by omega)
                                        go_wp2_with (fail)
                                        go_ret
                                        exact ⟨.inl rfl, HOT.out.trans HON3.out (by simp)⟩
                                      · have dac : decide (100 < ysl.length) = false := decide_eq_false hac
                                        have dac2 : decide ((100 : Int) < (ysl.length : Int)) = false := decide_eq_false (by omega)
                                        go_wp2_with (fail)
                                        go_roundw
                                        case rel => exact ⟨k9 + 1, z', by go_num, rfl, by omega, HZ.out.1, by have := HZ.out.2; omega, HM3, HON3⟩
                                        case measure => simp [intOf] <;> omega
                                    · have dz : decide (0 ≤ zr) = false := decide_eq_false hz0
                                      go_wp2_with (fail)
                                      go_roundw
                                      case rel => exact ⟨k + 1, zr, _, _, _, _, by go_num, rfl, rfl, rfl, rfl, rfl, by omega, by omega, by omega, Lib.hid ((HRX.out.stop (by omega) _).to HMES.out), Lib.hid (HOW.out.trans HON9.out (by simp))⟩
                                      case measure => simp [intOf] <;> omega
                                  · obtain rfl : k9 = xrulesl.length := by omega
                                    have iz : ¬ (xrulesl.length : Int) < (xrulesl.length : Int) := by omega
                                    have HRF := Lib.hid (HRX.out.to (show _ = (models.take k).flatMap Md.es ++ (xvarsl.map Se.e_ ++ xintl.map Se.e_ ++ xextl.map Se.e_ ++ xownl.map Se.e_) ++ xtal ++ xemitsl.flatMap Em.es ++ xrulesl.map Ru.e_ from by rw [List.take_length]))
                                    go_wp2_with (fail)
                                    go_roundw
                                    case rel => exact ⟨k + 1, zr, _, _, _, _, by go_num, rfl, rfl, rfl, rfl, rfl, by omega, by omega, by omega, Lib.hid ((HRF.out).to HMES.out), Lib.hid (HOW.out.trans HON9.out (by simp))⟩
                                    case measure => simp [intOf] <;> omega
        · have dz : decide (0 ≤ z) = false := decide_eq_false hz0
          have dn : decide (z < 0) = true := decide_eq_true (by omega)
          go_wp2_with (fail)
          go_ret
          exact ⟨.inl rfl, HO1.out.trans HOr.out (by simp)⟩
      · obtain rfl : k = models.length := by omega
        have iz : ¬ (models.length : Int) < (models.length : Int) := by omega
        have HRF := Lib.hid (HRM.out.to (show _ = models.flatMap Md.es from by rw [List.take_length]))
        by_cases hz0 : 0 ≤ z
        · have dn : decide (z < 0) = false := decide_eq_false (by omega)
          go_wp2_with (fail)
          go_ret
          exact ⟨.inr ⟨rfl, by have := (HRF.out.sm hz0).1; omega, (HRF.out.sm hz0).2⟩, HO1.out.trans HOr.out (by simp)⟩
        · have dn : decide (z < 0) = true := decide_eq_true (by omega)
          go_wp2_with (fail)
          go_ret
          exact ⟨.inl rfl, HO1.out.trans HOr.out (by simp)⟩
end Go.Proofs.YtfnacnlaphpflaaDoor
