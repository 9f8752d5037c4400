/- Right, the program's, of a coupled model. -/
import Derived.Test.YtfnacnlaphpflaaDoorPRu
namespace Go.Proofs.YtfnacnlaphpflaaDoor
open Go.RowKit Go.Kx
open Go.Val (Tt)
set_option maxRecDepth 100000
set_option maxHeartbeats 8000000 in
theorem coupled_any {xn : ByteArray} {xcp : Bool} {xinsA : Option Addr} {xinsc : Nat} {xinsl : List Po} {xoutsA : Option Addr} {xoutsc : Nat} {xoutsl : List Po} {xvarsA : Option Addr} {xvarsc : Nat} {xvarsl : List Se} {xtaA : Option Addr} {xtac : Nat} {xtal : List Ex} {xemitsA : Option Addr} {xemitsc : Nat} {xemitsl : List Em} {xintA : Option Addr} {xintc : Nat} {xintl : List Se} {xextA : Option Addr} {xextc : Nat} {xextl : List Se} {xcon : Int} {xownA : Option Addr} {xownc : Nat} {xownl : List Se} {xpartsA : Option Addr} {xpartsc : Nat} {xpartsl : List Pa} {xlinksA : Option Addr} {xlinksc : Nat} {xlinksl : List Lk} {xrulesA : Option Addr} {xrulesc : Nat} {xrulesl : List Ru} {w : World} (ha : Md.Li w (.mk xn xcp xinsA xinsc xinsl xoutsA xoutsc xoutsl xvarsA xvarsc xvarsl xtaA xtac xtal xemitsA xemitsc xemitsl xintA xintc xintl xextA xextc xextl xcon xownA xownc xownl xpartsA xpartsc xpartsl xlinksA xlinksc xlinksl xrulesA xrulesc xrulesl)) (hW : WordsIs w) : Calls Tryd.prog 74 #[.agg #[.string xn, .bool xcp, .slice xinsA xinsl.length xinsc, .slice xoutsA xoutsl.length xoutsc, .slice xvarsA xvarsl.length xvarsc, .slice xtaA xtal.length xtac, .slice xemitsA xemitsl.length xemitsc, .slice xintA xintl.length xintc, .slice xextA xextl.length xextc, .int .i64 xcon, .slice xownA xownl.length xownc, .slice xpartsA xpartsl.length xpartsc, .slice xlinksA xlinksl.length xlinksc, .slice xrulesA xrulesl.length xrulesc]] w fun r w' => r = .returned (.bool (Md.okC (.mk xn xcp xinsA xinsc xinsl xoutsA xoutsc xoutsl xvarsA xvarsc xvarsl xtaA xtac xtal xemitsA xemitsc xemitsl xintA xintc xintl xextA xextc xextl xcon xownA xownc xownl xpartsA xpartsc xpartsl xlinksA xlinksc xlinksl xrulesA xrulesc xrulesl))) ∧ Only [] w w' := by
  have K0 := Lib.hid (fun W (o : Only [] w W) => (show Calls Tryd.prog 87 #[.slice xpartsA xpartsl.length xpartsc, .func (.func 88) #[] #[]] W fun r w' => r = .returned (.bool (xpartsl.all Pa.ok)) ∧ Only [] W w' from all_Pa 88 Pa.ok eg88 (cap := xpartsc) (ha.2.2.2.2.2.2.2.2.2.2.2.1.keep Pa.Li.keep o) (hW.keep o) (fun _ _ _ h1 h2 => rightPa h1 h2)))
  have K1 := Lib.hid (fun W (o : Only [] w W) => (show Calls Tryd.prog 89 #[.slice xlinksA xlinksl.length xlinksc, .func (.func 90) #[] #[]] W fun r w' => r = .returned (.bool (xlinksl.all Lk.ok)) ∧ Only [] W w' from all_Lk 90 Lk.ok eg90 (cap := xlinksc) (ha.2.2.2.2.2.2.2.2.2.2.2.2.1.keep Lk.Li.keep o) (hW.keep o) (fun _ _ _ h1 h2 => rightLk h1 h2)))
  have K2 := Lib.hid (fun W (o : Only [] w W) => (show Calls Tryd.prog 91 #[.slice xrulesA xrulesl.length xrulesc, .func (.func 92) #[] #[]] W fun r w' => r = .returned (.bool (xrulesl.all Ru.ok)) ∧ Only [] W w' from all_Ru 92 Ru.ok eg92 (cap := xrulesc) (ha.2.2.2.2.2.2.2.2.2.2.2.2.2.keep Ru.Li.keep o) (hW.keep o) (fun _ _ _ h1 h2 => rightRu h1 h2)))
  have HE := Lib.hid (show Md.okC (.mk xn xcp xinsA xinsc xinsl xoutsA xoutsc xoutsl xvarsA xvarsc xvarsl xtaA xtac xtal xemitsA xemitsc xemitsl xintA xintc xintl xextA xextc xextl xcon xownA xownc xownl xpartsA xpartsc xpartsl xlinksA xlinksc xlinksl xrulesA xrulesc xrulesl) = (decide (xvarsl.length = 0) && decide (xtal.length = 0) && decide (xemitsl.length = 0) && decide (xcon = 0) && decide (xintl.length = 0) && decide (xextl.length = 0) && decide (xownl.length = 0) && decide (xpartsl.length ≤ 32) && xpartsl.all Pa.ok && decide (xlinksl.length ≤ 200) && xlinksl.all Lk.ok && decide (xrulesl.length ≤ 4) && xrulesl.all Ru.ok) from rfl)
  obtain ⟨q0, hq0⟩ : ∃ q, xpartsl.all Pa.ok = q := ⟨_, rfl⟩
  rw [hq0] at HE K0
  clear hq0
  obtain ⟨q1, hq1⟩ : ∃ q, xlinksl.all Lk.ok = q := ⟨_, rfl⟩
  rw [hq1] at HE K1
  clear hq1
  obtain ⟨q2, hq2⟩ : ∃ q, xrulesl.all Ru.ok = q := ⟨_, rfl⟩
  rw [hq2] at HE K2
  clear hq2
  show Calls Tryd.prog 74 #[.agg #[.string xn, .bool xcp, .slice xinsA xinsl.length xinsc, .slice xoutsA xoutsl.length xoutsc, .slice xvarsA xvarsl.length xvarsc, .slice xtaA xtal.length xtac, .slice xemitsA xemitsl.length xemitsc, .slice xintA xintl.length xintc, .slice xextA xextl.length xextc, .int .i64 xcon, .slice xownA xownl.length xownc, .slice xpartsA xpartsl.length xpartsc, .slice xlinksA xlinksl.length xlinksc, .slice xrulesA xrulesl.length xrulesc]] w fun r w' => r = .returned (.bool (Md.okC (.mk xn xcp xinsA xinsc xinsl xoutsA xoutsc xoutsl xvarsA xvarsc xvarsl xtaA xtac xtal xemitsA xemitsc xemitsl xintA xintc xintl xextA xextc xextl xcon xownA xownc xownl xpartsA xpartsc xpartsl xlinksA xlinksc xlinksl xrulesA xrulesc xrulesl))) ∧ Only [] w w'
  rw [HE.out]
  clear HE ha hW
  have HX0 := Lib.hid (Blk.new w 70 #[.string xn, .bool xcp, .slice xinsA xinsl.length xinsc, .slice xoutsA xoutsl.length xoutsc, .slice xvarsA xvarsl.length xvarsc, .slice xtaA xtal.length xtac, .slice xemitsA xemitsl.length xemitsc, .slice xintA xintl.length xintc, .slice xextA xextl.length xextc, .int .i64 xcon, .slice xownA xownl.length xownc, .slice xpartsA xpartsl.length xpartsc, .slice xlinksA xlinksl.length xlinksc, .slice xrulesA xrulesl.length xrulesc])
  have HO0 := Lib.hid (show Only [] w (w.alloc (.cells #[.string xn, .bool xcp, .slice xinsA xinsl.length xinsc, .slice xoutsA xoutsl.length xoutsc, .slice xvarsA xvarsl.length xvarsc, .slice xtaA xtal.length xtac, .slice xemitsA xemitsl.length xemitsc, .slice xintA xintl.length xintc, .slice xextA xextl.length xextc, .int .i64 xcon, .slice xownA xownl.length xownc, .slice xpartsA xpartsl.length xpartsc, .slice xlinksA xlinksl.length xlinksc, .slice xrulesA xrulesl.length xrulesc] 70)) from (Only.refl [] w).alloc _)
  obtain ⟨bx0, bx1, bx2, bx3, bx4, bx5, bx6, bx7, bx8, bx9, bx10, bx11, bx12, bx13, bxl⟩ := HX0.out.facts14
  clear bx0 bx1 bx2 bx3 bx12 bx13
  go_enter Tryd.func74, Tryd.ntmps74
  by_cases e0 : xvarsl.length = 0
  · have e0a : decide (0 < xvarsl.length) = false := by first | exact decide_eq_false (by omega) | (simp [e0]; done) | (simp; omega)
    have e0b : decide ((0 : Int) < (xvarsl.length : Int)) = false := by first | exact decide_eq_false (by omega) | (simp [e0]; done) | (simp; omega)
    have E0 := Lib.hid (show decide (xvarsl.length = 0) = true from decide_eq_true (by omega))
    clear e0
    by_cases e1 : xtal.length = 0
    · have e1a : decide (0 < xtal.length) = false := by first | exact decide_eq_false (by omega) | (simp [e1]; done) | (simp; omega)
      have e1b : decide ((0 : Int) < (xtal.length : Int)) = false := by first | exact decide_eq_false (by omega) | (simp [e1]; done) | (simp; omega)
      have E1 := Lib.hid (show decide (xtal.length = 0) = true from decide_eq_true (by omega))
      clear e1
      by_cases e2 : xemitsl.length = 0
      · have e2a : decide (0 < xemitsl.length) = false := by first | exact decide_eq_false (by omega) | (simp [e2]; done) | (simp; omega)
        have e2b : decide ((0 : Int) < (xemitsl.length : Int)) = false := by first | exact decide_eq_false (by omega) | (simp [e2]; done) | (simp; omega)
        have E2 := Lib.hid (show decide (xemitsl.length = 0) = true from decide_eq_true (by omega))
        clear e2
        by_cases e3 : xcon = 0
        · have e3a : (xcon == 0) = true := by first | exact decide_eq_true (by omega) | (simp [e3]; done) | (simp; omega)
          have e3b : (xcon != 0) = false := by first | exact decide_eq_false (by omega) | (simp [e3]; done) | (simp; omega)
          have E3 := Lib.hid (show decide (xcon = 0) = true from decide_eq_true (by omega))
          clear e3
          by_cases e4 : xintl.length = 0
          · have e4a : decide (0 < xintl.length) = false := by first | exact decide_eq_false (by omega) | (simp [e4]; done) | (simp; omega)
            have e4b : decide ((0 : Int) < (xintl.length : Int)) = false := by first | exact decide_eq_false (by omega) | (simp [e4]; done) | (simp; omega)
            have E4 := Lib.hid (show decide (xintl.length = 0) = true from decide_eq_true (by omega))
            clear e4
            by_cases e5 : xextl.length = 0
            · have e5a : decide (0 < xextl.length) = false := by first | exact decide_eq_false (by omega) | (simp [e5]; done) | (simp; omega)
              have e5b : decide ((0 : Int) < (xextl.length : Int)) = false := by first | exact decide_eq_false (by omega) | (simp [e5]; done) | (simp; omega)
              have E5 := Lib.hid (show decide (xextl.length = 0) = true from decide_eq_true (by omega))
              clear e5
              by_cases e6 : xownl.length = 0
              · have e6a : decide (0 < xownl.length) = false := by first | exact decide_eq_false (by omega) | (simp [e6]; done) | (simp; omega)
                have e6b : decide ((0 : Int) < (xownl.length : Int)) = false := by first | exact decide_eq_false (by omega) | (simp [e6]; done) | (simp; omega)
                have E6 := Lib.hid (show decide (xownl.length = 0) = true from decide_eq_true (by omega))
                clear e6
                by_cases e7 : xpartsl.length ≤ 32
                · have e7a : decide (xpartsl.length ≤ 32) = true := by first | exact decide_eq_true (by omega) | (simp [e7]; done) | (simp; omega)
                  have e7b : decide ((xpartsl.length : Int) ≤ 32) = true := by first | exact decide_eq_true (by omega) | (simp [e7]; done) | (simp; omega)
                  have e7c : decide (32 < xpartsl.length) = false := by first | exact decide_eq_false (by omega) | (simp [e7]; done) | (simp; omega)
                  have e7d : decide ((32 : Int) < (xpartsl.length : Int)) = false := by first | exact decide_eq_false (by omega) | (simp [e7]; done) | (simp; omega)
                  have E7 := Lib.hid (show decide (xpartsl.length ≤ 32) = true from decide_eq_true (by omega))
                  clear e7
                  go_wp2_with (fail)
                  refine (K0.out _ HO0.out).mono ?_
                  rintro r w1 ⟨rfl, o1⟩
                  have HO1 := Lib.hid (HO0.out.trans o1 (by simp))
                  have HX1 := Lib.hid (o1.blk HX0.out (by simp))
                  clear o1
                  clear bx4 bx5 bx6 bx9 bx7 bx8 bx10 bx11 bxl
                  cases q0
                  · go_wp2_with (fail)
                    go_ret
                    exact ⟨by simp only [E0.out, E1.out, E2.out, E3.out, E4.out, E5.out, E6.out, E7.out, Bool.and_true, Bool.and_false, Bool.false_and] <;> rfl, HO1.out⟩
                  · obtain ⟨bx0, bx1, bx2, bx3, bx4, bx5, bx6, bx7, bx8, bx9, bx10, bx11, bx12, bx13, bxl⟩ := HX1.out.facts14
                    clear bx0 bx1 bx2 bx3 bx4 bx5 bx6 bx7 bx8 bx9 bx10 bx11 bx13
                    by_cases e9 : xlinksl.length ≤ 200
                    · have e9a : decide (xlinksl.length ≤ 200) = true := by first | exact decide_eq_true (by omega) | (simp [e9]; done) | (simp; omega)
                      have e9b : decide ((xlinksl.length : Int) ≤ 200) = true := by first | exact decide_eq_true (by omega) | (simp [e9]; done) | (simp; omega)
                      have e9c : decide (200 < xlinksl.length) = false := by first | exact decide_eq_false (by omega) | (simp [e9]; done) | (simp; omega)
                      have e9d : decide ((200 : Int) < (xlinksl.length : Int)) = false := by first | exact decide_eq_false (by omega) | (simp [e9]; done) | (simp; omega)
                      have E9 := Lib.hid (show decide (xlinksl.length ≤ 200) = true from decide_eq_true (by omega))
                      clear e9
                      go_wp2_with (fail)
                      refine (K1.out _ HO1.out).mono ?_
                      rintro r w2 ⟨rfl, o2⟩
                      have HO2 := Lib.hid (HO1.out.trans o2 (by simp))
                      have HX2 := Lib.hid (o2.blk HX1.out (by simp))
                      clear o2
                      clear bx12 bxl
                      cases q1
                      · go_wp2_with (fail)
                        go_ret
                        exact ⟨by simp only [E0.out, E1.out, E2.out, E3.out, E4.out, E5.out, E6.out, E7.out, E9.out, Bool.and_true, Bool.and_false, Bool.false_and] <;> rfl, HO2.out⟩
                      · obtain ⟨bx0, bx1, bx2, bx3, bx4, bx5, bx6, bx7, bx8, bx9, bx10, bx11, bx12, bx13, bxl⟩ := HX2.out.facts14
                        clear bx0 bx1 bx2 bx3 bx4 bx5 bx6 bx7 bx8 bx9 bx10 bx11 bx12
                        by_cases e11 : xrulesl.length ≤ 4
                        · have e11a : decide (xrulesl.length ≤ 4) = true := by first | exact decide_eq_true (by omega) | (simp [e11]; done) | (simp; omega)
                          have e11b : decide ((xrulesl.length : Int) ≤ 4) = true := by first | exact decide_eq_true (by omega) | (simp [e11]; done) | (simp; omega)
                          have e11c : decide (4 < xrulesl.length) = false := by first | exact decide_eq_false (by omega) | (simp [e11]; done) | (simp; omega)
                          have e11d : decide ((4 : Int) < (xrulesl.length : Int)) = false := by first | exact decide_eq_false (by omega) | (simp [e11]; done) | (simp; omega)
                          have E11 := Lib.hid (show decide (xrulesl.length ≤ 4) = true from decide_eq_true (by omega))
                          clear e11
                          go_wp2_with (fail)
                          refine (K2.out _ HO2.out).mono ?_
                          rintro r w3 ⟨rfl, o3⟩
                          have HO3 := Lib.hid (HO2.out.trans o3 (by simp))
                          have HX3 := Lib.hid (o3.blk HX2.out (by simp))
                          clear o3
                          clear bx13 bxl
                          go_wp2_with (fail)
                          go_ret
                          exact ⟨by simp only [E0.out, E1.out, E2.out, E3.out, E4.out, E5.out, E6.out, E7.out, E9.out, E11.out, Bool.and_true, Bool.true_and] <;> rfl, HO3.out⟩
                        · have e11a : decide (xrulesl.length ≤ 4) = false := by first | exact decide_eq_false (by omega) | (simp [e11]; done) | (simp; omega)
                          have e11b : decide ((xrulesl.length : Int) ≤ 4) = false := by first | exact decide_eq_false (by omega) | (simp [e11]; done) | (simp; omega)
                          have e11c : decide (4 < xrulesl.length) = true := by first | exact decide_eq_true (by omega) | (simp [e11]; done) | (simp; omega)
                          have e11d : decide ((4 : Int) < (xrulesl.length : Int)) = true := by first | exact decide_eq_true (by omega) | (simp [e11]; done) | (simp; omega)
                          have E11 := Lib.hid (show decide (xrulesl.length ≤ 4) = false from decide_eq_false (by omega))
                          clear e11
                          go_wp2_with (fail)
                          go_ret
                          exact ⟨by simp only [E0.out, E1.out, E2.out, E3.out, E4.out, E5.out, E6.out, E7.out, E9.out, E11.out, Bool.and_true, Bool.and_false, Bool.false_and] <;> rfl, HO2.out⟩
                    · have e9a : decide (xlinksl.length ≤ 200) = false := by first | exact decide_eq_false (by omega) | (simp [e9]; done) | (simp; omega)
                      have e9b : decide ((xlinksl.length : Int) ≤ 200) = false := by first | exact decide_eq_false (by omega) | (simp [e9]; done) | (simp; omega)
                      have e9c : decide (200 < xlinksl.length) = true := by first | exact decide_eq_true (by omega) | (simp [e9]; done) | (simp; omega)
                      have e9d : decide ((200 : Int) < (xlinksl.length : Int)) = true := by first | exact decide_eq_true (by omega) | (simp [e9]; done) | (simp; omega)
                      have E9 := Lib.hid (show decide (xlinksl.length ≤ 200) = false from decide_eq_false (by omega))
                      clear e9
                      go_wp2_with (fail)
                      go_ret
                      exact ⟨by simp only [E0.out, E1.out, E2.out, E3.out, E4.out, E5.out, E6.out, E7.out, E9.out, Bool.and_true, Bool.and_false, Bool.false_and] <;> rfl, HO1.out⟩
                · have e7a : decide (xpartsl.length ≤ 32) = false := by first | exact decide_eq_false (by omega) | (simp [e7]; done) | (simp; omega)
                  have e7b : decide ((xpartsl.length : Int) ≤ 32) = false := by first | exact decide_eq_false (by omega) | (simp [e7]; done) | (simp; omega)
                  have e7c : decide (32 < xpartsl.length) = true := by first | exact decide_eq_true (by omega) | (simp [e7]; done) | (simp; omega)
                  have e7d : decide ((32 : Int) < (xpartsl.length : Int)) = true := by first | exact decide_eq_true (by omega) | (simp [e7]; done) | (simp; omega)
                  have E7 := Lib.hid (show decide (xpartsl.length ≤ 32) = false from decide_eq_false (by omega))
                  clear e7
                  go_wp2_with (fail)
                  go_ret
                  exact ⟨by simp only [E0.out, E1.out, E2.out, E3.out, E4.out, E5.out, E6.out, E7.out, Bool.and_true, Bool.and_false, Bool.false_and] <;> rfl, HO0.out⟩
              · have e6a : decide (0 < xownl.length) = true := by first | exact decide_eq_true (by omega) | (simp [e6]; done) | (simp; omega)
                have e6b : decide ((0 : Int) < (xownl.length : Int)) = true := by first | exact decide_eq_true (by omega) | (simp [e6]; done) | (simp; omega)
                have E6 := Lib.hid (show decide (xownl.length = 0) = false from decide_eq_false (by omega))
                clear e6
                go_wp2_with (fail)
                go_ret
                exact ⟨by simp only [E0.out, E1.out, E2.out, E3.out, E4.out, E5.out, E6.out, Bool.and_true, Bool.and_false, Bool.false_and] <;> rfl, HO0.out⟩
            · have e5a : decide (0 < xextl.length) = true := by first | exact decide_eq_true (by omega) | (simp [e5]; done) | (simp; omega)
              have e5b : decide ((0 : Int) < (xextl.length : Int)) = true := by first | exact decide_eq_true (by omega) | (simp [e5]; done) | (simp; omega)
              have E5 := Lib.hid (show decide (xextl.length = 0) = false from decide_eq_false (by omega))
              clear e5
              go_wp2_with (fail)
              go_ret
              exact ⟨by simp only [E0.out, E1.out, E2.out, E3.out, E4.out, E5.out, Bool.and_true, Bool.and_false, Bool.false_and] <;> rfl, HO0.out⟩
          · have e4a : decide (0 < xintl.length) = true := by first | exact decide_eq_true (by omega) | (simp [e4]; done) | (simp; omega)
            have e4b : decide ((0 : Int) < (xintl.length : Int)) = true := by first | exact decide_eq_true (by omega) | (simp [e4]; done) | (simp; omega)
            have E4 := Lib.hid (show decide (xintl.length = 0) = false from decide_eq_false (by omega))
            clear e4
            go_wp2_with (fail)
            go_ret
            exact ⟨by simp only [E0.out, E1.out, E2.out, E3.out, E4.out, Bool.and_true, Bool.and_false, Bool.false_and] <;> rfl, HO0.out⟩
        · have e3a : (xcon == 0) = false := by first | exact decide_eq_false (by omega) | (simp [e3]; done) | (simp; omega)
          have e3b : (xcon != 0) = true := by first | exact decide_eq_true (by omega) | (simp [e3]; done) | (simp; omega)
          have E3 := Lib.hid (show decide (xcon = 0) = false from decide_eq_false (by omega))
          clear e3
          go_wp2_with (fail)
          go_ret
          exact ⟨by simp only [E0.out, E1.out, E2.out, E3.out, Bool.and_true, Bool.and_false, Bool.false_and] <;> rfl, HO0.out⟩
      · have e2a : decide (0 < xemitsl.length) = true := by first | exact decide_eq_true (by omega) | (simp [e2]; done) | (simp; omega)
        have e2b : decide ((0 : Int) < (xemitsl.length : Int)) = true := by first | exact decide_eq_true (by omega) | (simp [e2]; done) | (simp; omega)
        have E2 := Lib.hid (show decide (xemitsl.length = 0) = false from decide_eq_false (by omega))
        clear e2
        go_wp2_with (fail)
        go_ret
        exact ⟨by simp only [E0.out, E1.out, E2.out, Bool.and_true, Bool.and_false, Bool.false_and] <;> rfl, HO0.out⟩
    · have e1a : decide (0 < xtal.length) = true := by first | exact decide_eq_true (by omega) | (simp [e1]; done) | (simp; omega)
      have e1b : decide ((0 : Int) < (xtal.length : Int)) = true := by first | exact decide_eq_true (by omega) | (simp [e1]; done) | (simp; omega)
      have E1 := Lib.hid (show decide (xtal.length = 0) = false from decide_eq_false (by omega))
      clear e1
      go_wp2_with (fail)
      go_ret
      exact ⟨by simp only [E0.out, E1.out, Bool.and_false, Bool.false_and] <;> rfl, HO0.out⟩
  · have e0a : decide (0 < xvarsl.length) = true := by first | exact decide_eq_true (by omega) | (simp [e0]; done) | (simp; omega)
    have e0b : decide ((0 : Int) < (xvarsl.length : Int)) = true := by first | exact decide_eq_true (by omega) | (simp [e0]; done) | (simp; omega)
    have E0 := Lib.hid (show decide (xvarsl.length = 0) = false from decide_eq_false (by omega))
    clear e0
    go_wp2_with (fail)
    go_ret
    exact ⟨by simp only [E0.out, Bool.false_and] <;> rfl, HO0.out⟩
end Go.Proofs.YtfnacnlaphpflaaDoor
