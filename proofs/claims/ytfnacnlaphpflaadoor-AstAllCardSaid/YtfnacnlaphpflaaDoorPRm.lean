/- Right, the program's, of models and programs. -/
import Derived.Test.YtfnacnlaphpflaaDoorPRc
import Derived.Test.YtfnacnlaphpflaaDoorPRa
namespace Go.Proofs.YtfnacnlaphpflaaDoor
open Go.RowKit Go.Kx
open Go.Val (Tt)
set_option maxRecDepth 100000
set_option maxHeartbeats 8000000 in
theorem rightMd0 {xn : ByteArray} {xcp : Bool} {xinsA : Option Addr} {xinsc : Nat} {xinsl : List Po} {xoutsA : Option Addr} {xoutsc : Nat} {xoutsl : List Po} {xvarsA : Option Addr} {xvarsc : Nat} {xvarsl : List Se} {xtaA : Option Addr} {xtac : Nat} {xtal : List Ex} {xemitsA : Option Addr} {xemitsc : Nat} {xemitsl : List Em} {xintA : Option Addr} {xintc : Nat} {xintl : List Se} {xextA : Option Addr} {xextc : Nat} {xextl : List Se} {xcon : Int} {xownA : Option Addr} {xownc : Nat} {xownl : List Se} {xpartsA : Option Addr} {xpartsc : Nat} {xpartsl : List Pa} {xlinksA : Option Addr} {xlinksc : Nat} {xlinksl : List Lk} {xrulesA : Option Addr} {xrulesc : Nat} {xrulesl : List Ru} {w : World} (ha : Md.Li w (.mk xn xcp xinsA xinsc xinsl xoutsA xoutsc xoutsl xvarsA xvarsc xvarsl xtaA xtac xtal xemitsA xemitsc xemitsl xintA xintc xintl xextA xextc xextl xcon xownA xownc xownl xpartsA xpartsc xpartsl xlinksA xlinksc xlinksl xrulesA xrulesc xrulesl)) (hW : WordsIs w) : Calls Tryd.prog 48 #[.agg #[.string xn, .bool xcp, .slice xinsA xinsl.length xinsc, .slice xoutsA xoutsl.length xoutsc, .slice xvarsA xvarsl.length xvarsc, .slice xtaA xtal.length xtac, .slice xemitsA xemitsl.length xemitsc, .slice xintA xintl.length xintc, .slice xextA xextl.length xextc, .int .i64 xcon, .slice xownA xownl.length xownc, .slice xpartsA xpartsl.length xpartsc, .slice xlinksA xlinksl.length xlinksc, .slice xrulesA xrulesl.length xrulesc]] w fun r w' => r = .returned (.bool (Md.ok (.mk xn xcp xinsA xinsc xinsl xoutsA xoutsc xoutsl xvarsA xvarsc xvarsl xtaA xtac xtal xemitsA xemitsc xemitsl xintA xintc xintl xextA xextc xextl xcon xownA xownc xownl xpartsA xpartsc xpartsl xlinksA xlinksc xlinksl xrulesA xrulesc xrulesl))) ∧ Only [] w w' := by
  have K0 := Lib.hid (fun W (o : Only [] w W) => (show Calls Tryd.prog 17 #[.string xn] W fun r w' => r = .returned (.bool (nmB xn)) ∧ Only [] W w' from name_any ha.1 (hW.keep o)))
  have K1 := Lib.hid (fun W (o : Only [] w W) => (show Calls Tryd.prog 72 #[.slice xinsA xinsl.length xinsc, .func (.func 73) #[] #[]] W fun r w' => r = .returned (.bool (xinsl.all Po.ok)) ∧ Only [] W w' from all_Po 73 Po.ok eg73 (cap := xinsc) (ha.2.2.1.keep Po.Li.keep o) (hW.keep o) (fun _ _ _ h1 h2 => rightPo h1 h2)))
  have K2 := Lib.hid (fun W (o : Only [] w W) => (show Calls Tryd.prog 72 #[.slice xoutsA xoutsl.length xoutsc, .func (.func 73) #[] #[]] W fun r w' => r = .returned (.bool (xoutsl.all Po.ok)) ∧ Only [] W w' from all_Po 73 Po.ok eg73 (cap := xoutsc) (ha.2.2.2.1.keep Po.Li.keep o) (hW.keep o) (fun _ _ _ h1 h2 => rightPo h1 h2)))
  have K5 := Lib.hid (fun W (o : Only [] w W) => (show Calls Tryd.prog 74 #[.agg #[.string xn, .bool xcp, .slice xinsA xinsl.length xinsc, .slice xoutsA xoutsl.length xoutsc, .slice xvarsA xvarsl.length xvarsc, .slice xtaA xtal.length xtac, .slice xemitsA xemitsl.length xemitsc, .slice xintA xintl.length xintc, .slice xextA xextl.length xextc, .int .i64 xcon, .slice xownA xownl.length xownc, .slice xpartsA xpartsl.length xpartsc, .slice xlinksA xlinksl.length xlinksc, .slice xrulesA xrulesl.length xrulesc]] W fun r w' => r = .returned (.bool (Md.okC (.mk xn xcp xinsA xinsc xinsl xoutsA xoutsc xoutsl xvarsA xvarsc xvarsl xtaA xtac xtal xemitsA xemitsc xemitsl xintA xintc xintl xextA xextc xextl xcon xownA xownc xownl xpartsA xpartsc xpartsl xlinksA xlinksc xlinksl xrulesA xrulesc xrulesl))) ∧ Only [] W w' from coupled_any (Md.Li.keep _ _ _ ha o) (hW.keep o)))
  have K6 := Lib.hid (fun W (o : Only [] w W) => (show Calls Tryd.prog 75 #[.agg #[.string xn, .bool xcp, .slice xinsA xinsl.length xinsc, .slice xoutsA xoutsl.length xoutsc, .slice xvarsA xvarsl.length xvarsc, .slice xtaA xtal.length xtac, .slice xemitsA xemitsl.length xemitsc, .slice xintA xintl.length xintc, .slice xextA xextl.length xextc, .int .i64 xcon, .slice xownA xownl.length xownc, .slice xpartsA xpartsl.length xpartsc, .slice xlinksA xlinksl.length xlinksc, .slice xrulesA xrulesl.length xrulesc]] W fun r w' => r = .returned (.bool (Md.okA (.mk xn xcp xinsA xinsc xinsl xoutsA xoutsc xoutsl xvarsA xvarsc xvarsl xtaA xtac xtal xemitsA xemitsc xemitsl xintA xintc xintl xextA xextc xextl xcon xownA xownc xownl xpartsA xpartsc xpartsl xlinksA xlinksc xlinksl xrulesA xrulesc xrulesl))) ∧ Only [] W w' from atomic_any (Md.Li.keep _ _ _ ha o) (hW.keep o)))
  have HE := Lib.hid (show Md.ok (.mk xn xcp xinsA xinsc xinsl xoutsA xoutsc xoutsl xvarsA xvarsc xvarsl xtaA xtac xtal xemitsA xemitsc xemitsl xintA xintc xintl xextA xextc xextl xcon xownA xownc xownl xpartsA xpartsc xpartsl xlinksA xlinksc xlinksl xrulesA xrulesc xrulesl) = (nmB xn && decide (xinsl.length ≤ 8) && decide (xoutsl.length ≤ 8) && xinsl.all Po.ok && xoutsl.all Po.ok && (if xcp = true then Md.okC (.mk xn xcp xinsA xinsc xinsl xoutsA xoutsc xoutsl xvarsA xvarsc xvarsl xtaA xtac xtal xemitsA xemitsc xemitsl xintA xintc xintl xextA xextc xextl xcon xownA xownc xownl xpartsA xpartsc xpartsl xlinksA xlinksc xlinksl xrulesA xrulesc xrulesl) else Md.okA (.mk xn xcp xinsA xinsc xinsl xoutsA xoutsc xoutsl xvarsA xvarsc xvarsl xtaA xtac xtal xemitsA xemitsc xemitsl xintA xintc xintl xextA xextc xextl xcon xownA xownc xownl xpartsA xpartsc xpartsl xlinksA xlinksc xlinksl xrulesA xrulesc xrulesl))) from (show _ = (nmB xn && (decide (xinsl.length ≤ 8) && xinsl.all Po.ok) && (decide (xoutsl.length ≤ 8) && xoutsl.all Po.ok) && (if xcp = true then Md.okC (.mk xn xcp xinsA xinsc xinsl xoutsA xoutsc xoutsl xvarsA xvarsc xvarsl xtaA xtac xtal xemitsA xemitsc xemitsl xintA xintc xintl xextA xextc xextl xcon xownA xownc xownl xpartsA xpartsc xpartsl xlinksA xlinksc xlinksl xrulesA xrulesc xrulesl) else Md.okA (.mk xn xcp xinsA xinsc xinsl xoutsA xoutsc xoutsl xvarsA xvarsc xvarsl xtaA xtac xtal xemitsA xemitsc xemitsl xintA xintc xintl xextA xextc xextl xcon xownA xownc xownl xpartsA xpartsc xpartsl xlinksA xlinksc xlinksl xrulesA xrulesc xrulesl))) from rfl).trans (by ac_rfl))
  obtain ⟨q0, hq0⟩ : ∃ q, nmB xn = q := ⟨_, rfl⟩
  rw [hq0] at HE K0
  clear hq0
  obtain ⟨q1, hq1⟩ : ∃ q, xinsl.all Po.ok = q := ⟨_, rfl⟩
  rw [hq1] at HE K1
  clear hq1
  obtain ⟨q2, hq2⟩ : ∃ q, xoutsl.all Po.ok = q := ⟨_, rfl⟩
  rw [hq2] at HE K2
  clear hq2
  show Calls Tryd.prog 48 #[.agg #[.string xn, .bool xcp, .slice xinsA xinsl.length xinsc, .slice xoutsA xoutsl.length xoutsc, .slice xvarsA xvarsl.length xvarsc, .slice xtaA xtal.length xtac, .slice xemitsA xemitsl.length xemitsc, .slice xintA xintl.length xintc, .slice xextA xextl.length xextc, .int .i64 xcon, .slice xownA xownl.length xownc, .slice xpartsA xpartsl.length xpartsc, .slice xlinksA xlinksl.length xlinksc, .slice xrulesA xrulesl.length xrulesc]] w fun r w' => r = .returned (.bool (Md.ok (.mk xn xcp xinsA xinsc xinsl xoutsA xoutsc xoutsl xvarsA xvarsc xvarsl xtaA xtac xtal xemitsA xemitsc xemitsl xintA xintc xintl xextA xextc xextl xcon xownA xownc xownl xpartsA xpartsc xpartsl xlinksA xlinksc xlinksl xrulesA xrulesc xrulesl))) ∧ Only [] w w'
  obtain ⟨qc, hqc⟩ : ∃ q, Md.okC (.mk xn xcp xinsA xinsc xinsl xoutsA xoutsc xoutsl xvarsA xvarsc xvarsl xtaA xtac xtal xemitsA xemitsc xemitsl xintA xintc xintl xextA xextc xextl xcon xownA xownc xownl xpartsA xpartsc xpartsl xlinksA xlinksc xlinksl xrulesA xrulesc xrulesl) = q := ⟨_, rfl⟩
  rw [hqc] at HE K5
  clear hqc
  obtain ⟨qa, hqa⟩ : ∃ q, Md.okA (.mk xn xcp xinsA xinsc xinsl xoutsA xoutsc xoutsl xvarsA xvarsc xvarsl xtaA xtac xtal xemitsA xemitsc xemitsl xintA xintc xintl xextA xextc xextl xcon xownA xownc xownl xpartsA xpartsc xpartsl xlinksA xlinksc xlinksl xrulesA xrulesc xrulesl) = q := ⟨_, rfl⟩
  rw [hqa] at HE K6
  clear hqa
  obtain ⟨qX, hqX⟩ : ∃ q, (if xcp = true then qc else qa) = q := ⟨_, rfl⟩
  rw [hqX] at HE
  have HQX := Lib.hid hqX
  clear hqX
  rw [HE.out]
  clear HE ha hW
  have HX0 := Lib.hid (Blk.new w 70 #[.string xn, .bool xcp, .slice xinsA xinsl.length xinsc, .slice xoutsA xoutsl.length xoutsc, .slice xvarsA xvarsl.length xvarsc, .slice xtaA xtal.length xtac, .slice xemitsA xemitsl.length xemitsc, .slice xintA xintl.length xintc, .slice xextA xextl.length xextc, .int .i64 xcon, .slice xownA xownl.length xownc, .slice xpartsA xpartsl.length xpartsc, .slice xlinksA xlinksl.length xlinksc, .slice xrulesA xrulesl.length xrulesc])
  have HO0 := Lib.hid (show Only [] w (w.alloc (.cells #[.string xn, .bool xcp, .slice xinsA xinsl.length xinsc, .slice xoutsA xoutsl.length xoutsc, .slice xvarsA xvarsl.length xvarsc, .slice xtaA xtal.length xtac, .slice xemitsA xemitsl.length xemitsc, .slice xintA xintl.length xintc, .slice xextA xextl.length xextc, .int .i64 xcon, .slice xownA xownl.length xownc, .slice xpartsA xpartsl.length xpartsc, .slice xlinksA xlinksl.length xlinksc, .slice xrulesA xrulesl.length xrulesc] 70)) from (Only.refl [] w).alloc _)
  obtain ⟨bx0, bx1, bx2, bx3, bx4, bx5, bx6, bx7, bx8, bx9, bx10, bx11, bx12, bx13, bxl⟩ := HX0.out.facts14
  clear bx1 bx2 bx3 bx4 bx5 bx6 bx7 bx8 bx9 bx10 bx11 bx12 bx13
  go_enter Tryd.func48, Tryd.ntmps48
  go_wp2_with (fail)
  refine (K0.out _ HO0.out).mono ?_
  rintro r w1 ⟨rfl, o1⟩
  have HO1 := Lib.hid (HO0.out.trans o1 (by simp))
  have HX1 := Lib.hid (o1.blk HX0.out (by simp))
  clear o1
  clear bx0 bxl
  cases q0
  · go_wp2_with (fail)
    go_ret
    exact ⟨by simp only [Bool.false_and] <;> rfl, HO1.out⟩
  · obtain ⟨bx0, bx1, bx2, bx3, bx4, bx5, bx6, bx7, bx8, bx9, bx10, bx11, bx12, bx13, bxl⟩ := HX1.out.facts14
    clear bx0 bx1 bx4 bx5 bx6 bx7 bx8 bx9 bx10 bx11 bx12 bx13
    by_cases e1 : xinsl.length ≤ 8
    · have e1a : decide (xinsl.length ≤ 8) = true := by first | exact decide_eq_true (by omega) | (simp [e1]; done) | (simp; omega)
      have e1b : decide ((xinsl.length : Int) ≤ 8) = true := by first | exact decide_eq_true (by omega) | (simp [e1]; done) | (simp; omega)
      have e1c : decide (8 < xinsl.length) = false := by first | exact decide_eq_false (by omega) | (simp [e1]; done) | (simp; omega)
      have e1d : decide ((8 : Int) < (xinsl.length : Int)) = false := by first | exact decide_eq_false (by omega) | (simp [e1]; done) | (simp; omega)
      have E1 := Lib.hid (show decide (xinsl.length ≤ 8) = true from decide_eq_true (by omega))
      clear e1
      by_cases e2 : xoutsl.length ≤ 8
      · have e2a : decide (xoutsl.length ≤ 8) = true := by first | exact decide_eq_true (by omega) | (simp [e2]; done) | (simp; omega)
        have e2b : decide ((xoutsl.length : Int) ≤ 8) = true := by first | exact decide_eq_true (by omega) | (simp [e2]; done) | (simp; omega)
        have e2c : decide (8 < xoutsl.length) = false := by first | exact decide_eq_false (by omega) | (simp [e2]; done) | (simp; omega)
        have e2d : decide ((8 : Int) < (xoutsl.length : Int)) = false := by first | exact decide_eq_false (by omega) | (simp [e2]; done) | (simp; omega)
        have E2 := Lib.hid (show decide (xoutsl.length ≤ 8) = true from decide_eq_true (by omega))
        clear e2
        go_wp2_with (fail)
        refine (K1.out _ HO1.out).mono ?_
        rintro r w2 ⟨rfl, o2⟩
        have HO2 := Lib.hid (HO1.out.trans o2 (by simp))
        have HX2 := Lib.hid (o2.blk HX1.out (by simp))
        clear o2
        clear bx2 bx3 bxl
        cases q1
        · go_wp2_with (fail)
          go_ret
          exact ⟨by simp only [E1.out, E2.out, Bool.and_true, Bool.and_false, Bool.false_and] <;> rfl, HO2.out⟩
        · obtain ⟨bx0, bx1, bx2, bx3, bx4, bx5, bx6, bx7, bx8, bx9, bx10, bx11, bx12, bx13, bxl⟩ := HX2.out.facts14
          clear bx0 bx1 bx2 bx4 bx5 bx6 bx7 bx8 bx9 bx10 bx11 bx12 bx13
          go_wp2_with (fail)
          refine (K2.out _ HO2.out).mono ?_
          rintro r w3 ⟨rfl, o3⟩
          have HO3 := Lib.hid (HO2.out.trans o3 (by simp))
          have HX3 := Lib.hid (o3.blk HX2.out (by simp))
          clear o3
          clear bx3 bxl
          cases q2
          · go_wp2_with (fail)
            go_ret
            exact ⟨by simp only [E1.out, E2.out, Bool.and_true, Bool.and_false, Bool.false_and] <;> rfl, HO3.out⟩
          · obtain ⟨bx0, bx1, bx2, bx3, bx4, bx5, bx6, bx7, bx8, bx9, bx10, bx11, bx12, bx13, bxl⟩ := HX3.out.facts14
            cases xcp
            · go_wp2_with (fail)
              refine (K6.out _ HO3.out).mono ?_
              rintro r w4 ⟨rfl, o4⟩
              have HO4 := Lib.hid (HO3.out.trans o4 (by simp))
              clear o4 bx0 bx1 bx2 bx3 bx4 bx5 bx6 bx7 bx8 bx9 bx10 bx11 bx12 bx13 bxl
              go_wp2_with (fail)
              go_ret
              exact ⟨by rw [← HQX.out]; simp only [E1.out, E2.out, Bool.and_true, Bool.true_and, Bool.false_eq_true, if_false] <;> rfl, HO4.out⟩
            · go_wp2_with (fail)
              refine (K5.out _ HO3.out).mono ?_
              rintro r w4 ⟨rfl, o4⟩
              have HO4 := Lib.hid (HO3.out.trans o4 (by simp))
              clear o4 bx0 bx1 bx2 bx3 bx4 bx5 bx6 bx7 bx8 bx9 bx10 bx11 bx12 bx13 bxl
              go_wp2_with (fail)
              go_ret
              exact ⟨by rw [← HQX.out]; simp only [E1.out, E2.out, Bool.and_true, Bool.true_and, if_true] <;> rfl, HO4.out⟩
      · have e2a : decide (xoutsl.length ≤ 8) = false := by first | exact decide_eq_false (by omega) | (simp [e2]; done) | (simp; omega)
        have e2b : decide ((xoutsl.length : Int) ≤ 8) = false := by first | exact decide_eq_false (by omega) | (simp [e2]; done) | (simp; omega)
        have e2c : decide (8 < xoutsl.length) = true := by first | exact decide_eq_true (by omega) | (simp [e2]; done) | (simp; omega)
        have e2d : decide ((8 : Int) < (xoutsl.length : Int)) = true := by first | exact decide_eq_true (by omega) | (simp [e2]; done) | (simp; omega)
        have E2 := Lib.hid (show decide (xoutsl.length ≤ 8) = false from decide_eq_false (by omega))
        clear e2
        go_wp2_with (fail)
        go_ret
        exact ⟨by simp only [E1.out, E2.out, Bool.and_true, Bool.and_false, Bool.false_and] <;> rfl, HO1.out⟩
    · have e1a : decide (xinsl.length ≤ 8) = false := by first | exact decide_eq_false (by omega) | (simp [e1]; done) | (simp; omega)
      have e1b : decide ((xinsl.length : Int) ≤ 8) = false := by first | exact decide_eq_false (by omega) | (simp [e1]; done) | (simp; omega)
      have e1c : decide (8 < xinsl.length) = true := by first | exact decide_eq_true (by omega) | (simp [e1]; done) | (simp; omega)
      have e1d : decide ((8 : Int) < (xinsl.length : Int)) = true := by first | exact decide_eq_true (by omega) | (simp [e1]; done) | (simp; omega)
      have E1 := Lib.hid (show decide (xinsl.length ≤ 8) = false from decide_eq_false (by omega))
      clear e1
      go_wp2_with (fail)
      go_ret
      exact ⟨by simp only [E1.out, Bool.and_false, Bool.false_and] <;> rfl, HO1.out⟩
theorem eg48 : ∀ args w, (callFunc 48 args).run Tryd.prog w = .ok (.enter 48 args) w := enters Tryd.func48 (by kernel_rfl) rfl
theorem rightMd {e : Md} {w : World} (ha : Md.Li w e) (hW : WordsIs w) : Calls Tryd.prog 48 #[e.val] w fun r w' => r = .returned (.bool e.ok) ∧ Only [] w w' := by
  obtain ⟨xn, xcp, xinsA, xinsc, xinsl, xoutsA, xoutsc, xoutsl, xvarsA, xvarsc, xvarsl, xtaA, xtac, xtal, xemitsA, xemitsc, xemitsl, xintA, xintc, xintl, xextA, xextc, xextl, xcon, xownA, xownc, xownl, xpartsA, xpartsc, xpartsl, xlinksA, xlinksc, xlinksl, xrulesA, xrulesc, xrulesl⟩ := e
  exact rightMd0 ha hW
set_option maxHeartbeats 4000000 in
theorem rightprog_any {A : Option Addr} {c : Nat} {us : List Md} {rt : ByteArray} {w : World} (hA : RowX Md.cs 14 Md.Li w A us) (hr : okS rt) (hW : WordsIs w) : Calls Tryd.prog 27 #[.agg #[.slice A us.length c, .string rt]] w fun r w' => r = .returned (.bool (okP us rt)) ∧ Only [] w w' := by
  have K0 := Lib.hid (fun W (o : Only [] w W) => (show Calls Tryd.prog 17 #[.string rt] W fun r w' => r = .returned (.bool (nmB rt)) ∧ Only [] W w' from name_any hr (hW.keep o)))
  have K1 := Lib.hid (fun W (o : Only [] w W) => (show Calls Tryd.prog 47 #[.slice A us.length c, .func (.func 48) #[] #[]] W fun r w' => r = .returned (.bool (us.all Md.ok)) ∧ Only [] W w' from all_Md 48 Md.ok eg48 (cap := c) (hA.keep Md.Li.keep o) (hW.keep o) (fun _ _ _ h1 h2 => rightMd h1 h2)))
  have HE := Lib.hid (show okP us rt = (decide (1 ≤ us.length) && decide (us.length ≤ 24) && nmB rt && us.all Md.ok) from rfl)
  obtain ⟨q0, hq0⟩ : ∃ q, nmB rt = q := ⟨_, rfl⟩
  rw [hq0] at HE K0
  clear hq0
  obtain ⟨q1, hq1⟩ : ∃ q, us.all Md.ok = q := ⟨_, rfl⟩
  rw [hq1] at HE K1
  clear hq1
  show Calls Tryd.prog 27 #[.agg #[.slice A us.length c, .string rt]] w fun r w' => r = .returned (.bool (okP us rt)) ∧ Only [] w w'
  rw [HE.out]
  clear HE hA hr hW
  have HX0 := Lib.hid (Blk.new w 39 #[.slice A us.length c, .string rt])
  have HO0 := Lib.hid (show Only [] w (w.alloc (.cells #[.slice A us.length c, .string rt] 39)) from (Only.refl [] w).alloc _)
  obtain ⟨bx0, bx1, bxl⟩ := HX0.out.facts2
  go_enter Tryd.func27, Tryd.ntmps27
  by_cases e0 : 1 ≤ us.length
  · have e0a : decide (1 ≤ us.length) = true := by first | exact decide_eq_true (by omega) | simp_all [nilB]
    have e0b : decide ((1 : Int) ≤ (us.length : Int)) = true := by first | exact decide_eq_true (by omega) | simp_all [nilB]
    have e0v : decide (1 ≤ us.length) = true := by first | exact decide_eq_true (by omega) | simpa [nilB] using e0
    have E0 := Lib.hid e0v
    clear e0v
    by_cases e1 : us.length ≤ 24
    · have e1a : decide (us.length ≤ 24) = true := by first | exact decide_eq_true (by omega) | simp_all [nilB]
      have e1b : decide ((us.length : Int) ≤ 24) = true := by first | exact decide_eq_true (by omega) | simp_all [nilB]
      have e1v : decide (us.length ≤ 24) = true := by first | exact decide_eq_true (by omega) | simpa [nilB] using e1
      have E1 := Lib.hid e1v
      clear e1v
      go_wp2_with (fail)
      refine (K0.out _ HO0.out).mono ?_
      rintro r w1 ⟨rfl, o1⟩
      have HO1 := Lib.hid (HO0.out.trans o1 (by simp))
      have HX1 := Lib.hid (o1.blk HX0.out (by simp))
      clear o1
      clear bx0 bx1 bxl
      obtain ⟨bx0, bx1, bxl⟩ := HX1.out.facts2
      cases q0
      · go_wp2_with (fail)
        go_ret
        exact ⟨by simp [E0.out, E1.out], HO1.out⟩
      · go_wp2_with (fail)
        refine (K1.out _ HO1.out).mono ?_
        rintro r w2 ⟨rfl, o2⟩
        have HO2 := Lib.hid (HO1.out.trans o2 (by simp))
        have HX2 := Lib.hid (o2.blk HX1.out (by simp))
        clear o2
        clear bx0 bx1 bxl
        obtain ⟨bx0, bx1, bxl⟩ := HX2.out.facts2
        go_wp2_with (fail)
        go_ret
        exact ⟨by simp [E0.out, E1.out], HO2.out⟩
    · have e1a : decide (us.length ≤ 24) = false := by first | exact decide_eq_false (by omega) | simp_all [nilB]
      have e1b : decide ((us.length : Int) ≤ 24) = false := by first | exact decide_eq_false (by omega) | simp_all [nilB]
      have e1v : decide (us.length ≤ 24) = false := by first | exact decide_eq_false (by omega) | simpa [nilB] using e1
      have E1 := Lib.hid e1v
      clear e1v
      go_wp2_with (fail)
      go_ret
      exact ⟨by simp [E0.out, E1.out], HO0.out⟩
  · have e0a : decide (1 ≤ us.length) = false := by first | exact decide_eq_false (by omega) | simp_all [nilB]
    have e0b : decide ((1 : Int) ≤ (us.length : Int)) = false := by first | exact decide_eq_false (by omega) | simp_all [nilB]
    have e0v : decide (1 ≤ us.length) = false := by first | exact decide_eq_false (by omega) | simpa [nilB] using e0
    have E0 := Lib.hid e0v
    clear e0v
    go_wp2_with (fail)
    go_ret
    exact ⟨by simp [E0.out], HO0.out⟩
end Go.Proofs.YtfnacnlaphpflaaDoor
