/- ModelRight, the document's, of a coupled model. -/
import Derived.Test.YtfnacnlaphpflaaDoorPQt
namespace Go.Proofs.YtfnacnlaphpflaaDoor
open Go.RowKit Go.Kx
open Go.Val (Tt)
set_option maxRecDepth 100000
set_option maxHeartbeats 8000000 in
theorem qmodelC {xn : ByteArray} {xinsA : Option Addr} {xinsc : Nat} {xinsl : List Po} {xoutsA : Option Addr} {xoutsc : Nat} {xoutsl : List Po} {xvarsA : Option Addr} {xvarsc : Nat} {xvarsl : List Se} {xtaA : Option Addr} {xtac : Nat} {xtal : List Ex} {xemitsA : Option Addr} {xemitsc : Nat} {xemitsl : List Em} {xintA : Option Addr} {xintc : Nat} {xintl : List Se} {xextA : Option Addr} {xextc : Nat} {xextl : List Se} {xcon : Int} {xownA : Option Addr} {xownc : Nat} {xownl : List Se} {xpartsA : Option Addr} {xpartsc : Nat} {xpartsl : List Pa} {xlinksA : Option Addr} {xlinksc : Nat} {xlinksl : List Lk} {xrulesA : Option Addr} {xrulesc : Nat} {xrulesl : List Ru} {w : World} (ha : Md.Li w (.mk xn true xinsA xinsc xinsl xoutsA xoutsc xoutsl xvarsA xvarsc xvarsl xtaA xtac xtal xemitsA xemitsc xemitsl xintA xintc xintl xextA xextc xextl xcon xownA xownc xownl xpartsA xpartsc xpartsl xlinksA xlinksc xlinksl xrulesA xrulesc xrulesl)) : Calls Tryd.prog 49 #[.agg #[.string xn, .bool true, .slice xinsA xinsl.length xinsc, .slice xoutsA xoutsl.length xoutsc, .slice xvarsA xvarsl.length xvarsc, .slice xtaA xtal.length xtac, .slice xemitsA xemitsl.length xemitsc, .slice xintA xintl.length xintc, .slice xextA xextl.length xextc, .int .i64 xcon, .slice xownA xownl.length xownc, .slice xpartsA xpartsl.length xpartsc, .slice xlinksA xlinksl.length xlinksc, .slice xrulesA xrulesl.length xrulesc]] w fun r w' => r = .returned (.bool (Md.ok (.mk xn true xinsA xinsc xinsl xoutsA xoutsc xoutsl xvarsA xvarsc xvarsl xtaA xtac xtal xemitsA xemitsc xemitsl xintA xintc xintl xextA xextc xextl xcon xownA xownc xownl xpartsA xpartsc xpartsl xlinksA xlinksc xlinksl xrulesA xrulesc xrulesl))) ∧ Only [] w w' := by
  have K0 := Lib.hid (fun W (o : Only [] w W) => (show Calls Tryd.prog 18 #[.string xn] W fun r w' => r = .returned (.bool (nmB xn)) ∧ Only [] W w' from refname_any ha.1))
  have K1 := Lib.hid (fun W (o : Only [] w W) => (show Calls Tryd.prog 76 #[.slice xinsA xinsl.length xinsc] W fun r w' => r = .returned (.bool (portsOk xinsl)) ∧ Only [] W w' from qports_any (cap := xinsc) (ha.2.2.1.keep Po.Li.keep o)))
  have K2 := Lib.hid (fun W (o : Only [] w W) => (show Calls Tryd.prog 76 #[.slice xoutsA xoutsl.length xoutsc] W fun r w' => r = .returned (.bool (portsOk xoutsl)) ∧ Only [] W w' from qports_any (cap := xoutsc) (ha.2.2.2.1.keep Po.Li.keep o)))
  have HAP := Lib.hid (show RowX Pa.cs 2 Pa.Li w xpartsA xpartsl from ha.2.2.2.2.2.2.2.2.2.2.2.1)
  have HAL := Lib.hid (show RowX Lk.cs 4 Lk.Li w xlinksA xlinksl from ha.2.2.2.2.2.2.2.2.2.2.2.2.1)
  have HAR := Lib.hid (show RowX Ru.cs 6 Ru.Li w xrulesA xrulesl from ha.2.2.2.2.2.2.2.2.2.2.2.2.2)
  have HE := Lib.hid (show Md.ok (.mk xn true xinsA xinsc xinsl xoutsA xoutsc xoutsl xvarsA xvarsc xvarsl xtaA xtac xtal xemitsA xemitsc xemitsl xintA xintc xintl xextA xextc xextl xcon xownA xownc xownl xpartsA xpartsc xpartsl xlinksA xlinksc xlinksl xrulesA xrulesc xrulesl) = (nmB xn && portsOk xinsl && portsOk xoutsl && decide (xvarsl.length = 0) && decide (xtal.length = 0) && decide (xemitsl.length = 0) && decide (xintl.length = 0) && decide (xextl.length = 0) && decide (xownl.length = 0) && decide (xcon = 0) && decide (xpartsl.length ≤ 32) && decide (xlinksl.length ≤ 200) && decide (xrulesl.length ≤ 4) && xpartsl.all Pa.ok && xlinksl.all Lk.ok && xrulesl.all Ru.ok) from (show _ = (nmB xn && portsOk xinsl && portsOk xoutsl && (decide (xvarsl.length = 0) && decide (xtal.length = 0) && decide (xemitsl.length = 0) && decide (xcon = 0) && decide (xintl.length = 0) && decide (xextl.length = 0) && decide (xownl.length = 0) && decide (xpartsl.length ≤ 32) && xpartsl.all Pa.ok && decide (xlinksl.length ≤ 200) && xlinksl.all Lk.ok && decide (xrulesl.length ≤ 4) && xrulesl.all Ru.ok)) from rfl).trans (by ac_rfl))
  obtain ⟨q0, hq0⟩ : ∃ q, nmB xn = q := ⟨_, rfl⟩
  rw [hq0] at HE K0
  clear hq0
  obtain ⟨q1, hq1⟩ : ∃ q, portsOk xinsl = q := ⟨_, rfl⟩
  rw [hq1] at HE K1
  clear hq1
  obtain ⟨q2, hq2⟩ : ∃ q, portsOk xoutsl = q := ⟨_, rfl⟩
  rw [hq2] at HE K2
  clear hq2
  obtain ⟨z3, hz⟩ : ∃ z, decide (xvarsl.length = 0) = z := ⟨_, rfl⟩
  rw [hz] at HE
  have HZ3 := Lib.hid hz
  clear hz
  obtain ⟨z4, hz⟩ : ∃ z, decide (xtal.length = 0) = z := ⟨_, rfl⟩
  rw [hz] at HE
  have HZ4 := Lib.hid hz
  clear hz
  obtain ⟨z5, hz⟩ : ∃ z, decide (xemitsl.length = 0) = z := ⟨_, rfl⟩
  rw [hz] at HE
  have HZ5 := Lib.hid hz
  clear hz
  obtain ⟨z6, hz⟩ : ∃ z, decide (xintl.length = 0) = z := ⟨_, rfl⟩
  rw [hz] at HE
  have HZ6 := Lib.hid hz
  clear hz
  obtain ⟨z7, hz⟩ : ∃ z, decide (xextl.length = 0) = z := ⟨_, rfl⟩
  rw [hz] at HE
  have HZ7 := Lib.hid hz
  clear hz
  obtain ⟨z8, hz⟩ : ∃ z, decide (xownl.length = 0) = z := ⟨_, rfl⟩
  rw [hz] at HE
  have HZ8 := Lib.hid hz
  clear hz
  obtain ⟨z9, hz⟩ : ∃ z, decide (xcon = 0) = z := ⟨_, rfl⟩
  rw [hz] at HE
  have HZ9 := Lib.hid hz
  clear hz
  obtain ⟨z10, hz⟩ : ∃ z, decide (xpartsl.length ≤ 32) = z := ⟨_, rfl⟩
  rw [hz] at HE
  have HZ10 := Lib.hid hz
  clear hz
  obtain ⟨z11, hz⟩ : ∃ z, decide (xlinksl.length ≤ 200) = z := ⟨_, rfl⟩
  rw [hz] at HE
  have HZ11 := Lib.hid hz
  clear hz
  obtain ⟨z12, hz⟩ : ∃ z, decide (xrulesl.length ≤ 4) = z := ⟨_, rfl⟩
  rw [hz] at HE
  have HZ12 := Lib.hid hz
  clear hz
  show Calls Tryd.prog 49 #[.agg #[.string xn, .bool true, .slice xinsA xinsl.length xinsc, .slice xoutsA xoutsl.length xoutsc, .slice xvarsA xvarsl.length xvarsc, .slice xtaA xtal.length xtac, .slice xemitsA xemitsl.length xemitsc, .slice xintA xintl.length xintc, .slice xextA xextl.length xextc, .int .i64 xcon, .slice xownA xownl.length xownc, .slice xpartsA xpartsl.length xpartsc, .slice xlinksA xlinksl.length xlinksc, .slice xrulesA xrulesl.length xrulesc]] w fun r w' => r = .returned (.bool (Md.ok (.mk xn true xinsA xinsc xinsl xoutsA xoutsc xoutsl xvarsA xvarsc xvarsl xtaA xtac xtal xemitsA xemitsc xemitsl xintA xintc xintl xextA xextc xextl xcon xownA xownc xownl xpartsA xpartsc xpartsl xlinksA xlinksc xlinksl xrulesA xrulesc xrulesl))) ∧ Only [] w w'
  obtain ⟨qP, hq⟩ : ∃ q, xpartsl.all Pa.ok = q := ⟨_, rfl⟩
  rw [hq] at HE
  have HQP := Lib.hid hq
  clear hq
  obtain ⟨qL, hq⟩ : ∃ q, xlinksl.all Lk.ok = q := ⟨_, rfl⟩
  rw [hq] at HE
  have HQL := Lib.hid hq
  clear hq
  obtain ⟨qR, hq⟩ : ∃ q, xrulesl.all Ru.ok = q := ⟨_, rfl⟩
  rw [hq] at HE
  have HQR := Lib.hid hq
  clear hq
  rw [HE.out]
  clear HE ha
  have HX0 := Lib.hid (Blk.new w 70 #[.string xn, .bool true, .slice xinsA xinsl.length xinsc, .slice xoutsA xoutsl.length xoutsc, .slice xvarsA xvarsl.length xvarsc, .slice xtaA xtal.length xtac, .slice xemitsA xemitsl.length xemitsc, .slice xintA xintl.length xintc, .slice xextA xextl.length xextc, .int .i64 xcon, .slice xownA xownl.length xownc, .slice xpartsA xpartsl.length xpartsc, .slice xlinksA xlinksl.length xlinksc, .slice xrulesA xrulesl.length xrulesc])
  have HO0 := Lib.hid (show Only [] w (w.alloc (.cells #[.string xn, .bool true, .slice xinsA xinsl.length xinsc, .slice xoutsA xoutsl.length xoutsc, .slice xvarsA xvarsl.length xvarsc, .slice xtaA xtal.length xtac, .slice xemitsA xemitsl.length xemitsc, .slice xintA xintl.length xintc, .slice xextA xextl.length xextc, .int .i64 xcon, .slice xownA xownl.length xownc, .slice xpartsA xpartsl.length xpartsc, .slice xlinksA xlinksl.length xlinksc, .slice xrulesA xrulesl.length xrulesc] 70)) from (Only.refl [] w).alloc _)
  obtain ⟨bx0, bx1, bx2, bx3, bx4, bx5, bx6, bx7, bx8, bx9, bx10, bx11, bx12, bx13, bxl⟩ := HX0.out.facts14
  clear bx2 bx3 bx4 bx5 bx6 bx7 bx8 bx9 bx10 bx11 bx12 bx13
  go_enter Tryd.func49, Tryd.ntmps49
  go_wp2_with (fail)
  refine (K0.out _ HO0.out).mono ?_
  rintro r w1 ⟨rfl, o1⟩
  have HO1 := Lib.hid (HO0.out.trans o1 (by simp))
  have HX1 := Lib.hid (o1.blk HX0.out (by simp))
  clear o1
  clear bx0 bx1 bxl
  cases q0
  · go_wp2_with (fail)
    go_ret
    exact ⟨by simp only [Bool.false_and] <;> rfl, HO1.out⟩
  · obtain ⟨bx0, bx1, bx2, bx3, bx4, bx5, bx6, bx7, bx8, bx9, bx10, bx11, bx12, bx13, bxl⟩ := HX1.out.facts14
    clear bx0 bx3 bx4 bx5 bx6 bx7 bx8 bx9 bx10 bx11 bx12 bx13
    go_wp2_with (fail)
    refine (K1.out _ HO1.out).mono ?_
    rintro r w2 ⟨rfl, o2⟩
    have HO2 := Lib.hid (HO1.out.trans o2 (by simp))
    have HX2 := Lib.hid (o2.blk HX1.out (by simp))
    clear o2
    clear bx2 bx1 bxl
    cases q1
    · go_wp2_with (fail)
      go_ret
      exact ⟨by simp only [Bool.and_false, Bool.false_and] <;> rfl, HO2.out⟩
    · obtain ⟨bx0, bx1, bx2, bx3, bx4, bx5, bx6, bx7, bx8, bx9, bx10, bx11, bx12, bx13, bxl⟩ := HX2.out.facts14
      clear bx0 bx2 bx4 bx5 bx6 bx7 bx8 bx9 bx10 bx11 bx12 bx13
      go_wp2_with (fail)
      refine (K2.out _ HO2.out).mono ?_
      rintro r w3 ⟨rfl, o3⟩
      have HO3 := Lib.hid (HO2.out.trans o3 (by simp))
      have HX3 := Lib.hid (o3.blk HX2.out (by simp))
      clear o3
      clear bx3 bx1 bxl
      cases q2
      · go_wp2_with (fail)
        go_ret
        exact ⟨by simp only [Bool.and_true, Bool.and_false, Bool.false_and] <;> rfl, HO3.out⟩
      · obtain ⟨bx0, bx1, bx2, bx3, bx4, bx5, bx6, bx7, bx8, bx9, bx10, bx11, bx12, bx13, bxl⟩ := HX3.out.facts14
        clear bx0 bx2 bx3
        by_cases e3 : xvarsl.length = 0
        · have e3a : decide (0 < xvarsl.length) = false := by first | exact decide_eq_false (by omega) | (simp [e3]; done) | (simp; omega)
          have e3b : decide ((0 : Int) < (xvarsl.length : Int)) = false := by first | exact decide_eq_false (by omega) | (simp [e3]; done) | (simp; omega)
          have E3 := Lib.hid (HZ3.out.symm.trans (decide_eq_true (by omega)))
          clear e3
          by_cases e4 : xtal.length = 0
          · have e4a : decide (0 < xtal.length) = false := by first | exact decide_eq_false (by omega) | (simp [e4]; done) | (simp; omega)
            have e4b : decide ((0 : Int) < (xtal.length : Int)) = false := by first | exact decide_eq_false (by omega) | (simp [e4]; done) | (simp; omega)
            have E4 := Lib.hid (HZ4.out.symm.trans (decide_eq_true (by omega)))
            clear e4
            by_cases e5 : xemitsl.length = 0
            · have e5a : decide (0 < xemitsl.length) = false := by first | exact decide_eq_false (by omega) | (simp [e5]; done) | (simp; omega)
              have e5b : decide ((0 : Int) < (xemitsl.length : Int)) = false := by first | exact decide_eq_false (by omega) | (simp [e5]; done) | (simp; omega)
              have E5 := Lib.hid (HZ5.out.symm.trans (decide_eq_true (by omega)))
              clear e5
              by_cases e6 : xintl.length = 0
              · have e6a : decide (0 < xintl.length) = false := by first | exact decide_eq_false (by omega) | (simp [e6]; done) | (simp; omega)
                have e6b : decide ((0 : Int) < (xintl.length : Int)) = false := by first | exact decide_eq_false (by omega) | (simp [e6]; done) | (simp; omega)
                have E6 := Lib.hid (HZ6.out.symm.trans (decide_eq_true (by omega)))
                clear e6
                by_cases e7 : xextl.length = 0
                · have e7a : decide (0 < xextl.length) = false := by first | exact decide_eq_false (by omega) | (simp [e7]; done) | (simp; omega)
                  have e7b : decide ((0 : Int) < (xextl.length : Int)) = false := by first | exact decide_eq_false (by omega) | (simp [e7]; done) | (simp; omega)
                  have E7 := Lib.hid (HZ7.out.symm.trans (decide_eq_true (by omega)))
                  clear e7
                  by_cases e8 : xownl.length = 0
                  · have e8a : decide (0 < xownl.length) = false := by first | exact decide_eq_false (by omega) | (simp [e8]; done) | (simp; omega)
                    have e8b : decide ((0 : Int) < (xownl.length : Int)) = false := by first | exact decide_eq_false (by omega) | (simp [e8]; done) | (simp; omega)
                    have E8 := Lib.hid (HZ8.out.symm.trans (decide_eq_true (by omega)))
                    clear e8
                    by_cases e9 : xcon = 0
                    · have e9a : (xcon == 0) = true := by first | exact decide_eq_true (by omega) | (simp [e9]; done) | (simp; omega)
                      have e9b : (xcon != 0) = false := by first | exact decide_eq_false (by omega) | (simp [e9]; done) | (simp; omega)
                      have E9 := Lib.hid (HZ9.out.symm.trans (decide_eq_true (by omega)))
                      clear e9
                      by_cases e10 : xpartsl.length ≤ 32
                      · have e10a : decide (xpartsl.length ≤ 32) = true := by first | exact decide_eq_true (by omega) | (simp [e10]; done) | (simp; omega)
                        have e10b : decide ((xpartsl.length : Int) ≤ 32) = true := by first | exact decide_eq_true (by omega) | (simp [e10]; done) | (simp; omega)
                        have e10c : decide (32 < xpartsl.length) = false := by first | exact decide_eq_false (by omega) | (simp [e10]; done) | (simp; omega)
                        have e10d : decide ((32 : Int) < (xpartsl.length : Int)) = false := by first | exact decide_eq_false (by omega) | (simp [e10]; done) | (simp; omega)
                        have E10 := Lib.hid (HZ10.out.symm.trans (decide_eq_true (by omega)))
                        clear e10
                        by_cases e11 : xlinksl.length ≤ 200
                        · have e11a : decide (xlinksl.length ≤ 200) = true := by first | exact decide_eq_true (by omega) | (simp [e11]; done) | (simp; omega)
                          have e11b : decide ((xlinksl.length : Int) ≤ 200) = true := by first | exact decide_eq_true (by omega) | (simp [e11]; done) | (simp; omega)
                          have e11c : decide (200 < xlinksl.length) = false := by first | exact decide_eq_false (by omega) | (simp [e11]; done) | (simp; omega)
                          have e11d : decide ((200 : Int) < (xlinksl.length : Int)) = false := by first | exact decide_eq_false (by omega) | (simp [e11]; done) | (simp; omega)
                          have E11 := Lib.hid (HZ11.out.symm.trans (decide_eq_true (by omega)))
                          clear e11
                          by_cases e12 : xrulesl.length ≤ 4
                          · have e12a : decide (xrulesl.length ≤ 4) = true := by first | exact decide_eq_true (by omega) | (simp [e12]; done) | (simp; omega)
                            have e12b : decide ((xrulesl.length : Int) ≤ 4) = true := by first | exact decide_eq_true (by omega) | (simp [e12]; done) | (simp; omega)
                            have e12c : decide (4 < xrulesl.length) = false := by first | exact decide_eq_false (by omega) | (simp [e12]; done) | (simp; omega)
                            have e12d : decide ((4 : Int) < (xrulesl.length : Int)) = false := by first | exact decide_eq_false (by omega) | (simp [e12]; done) | (simp; omega)
                            have E12 := Lib.hid (HZ12.out.symm.trans (decide_eq_true (by omega)))
                            clear e12
                            go_wp2_with (fail)
                            clear bx4 bx5 bx6 bx7 bx8 bx10 bx9 bx11 bx12 bx13 bx1 bxl
                            clear e3a e3b e4a e4b e5a e5b e6a e6b e7a e7b e8a e8b e9a e9b e10a e10b e10c e10d e11a e11b e11c e11d e12a e12b e12c e12d
                            go_loopw [5] (fun i wr => ∃ k : Nat, i = .int .i64 k ∧ k ≤ xpartsl.length ∧ Hid ((xpartsl.take k).all Pa.ok = true) ∧ Hid (Only [] w3 wr)) (fun i _ => xpartsl.length - (intOf i).toNat)
                            case atStart => exact ⟨0, rfl, Nat.zero_le _, Lib.hid (by simp), Lib.hid (Only.refl _ _)⟩
                            case round =>
                              obtain ⟨kP, rfl, hk, HP, HOr⟩ := hrel
                              obtain ⟨wqP, hwq⟩ : ∃ wq : World, wq = wr := ⟨_, rfl⟩
                              subst hwq
                              have HXqP := Lib.hid (HOr.out.blk HX3.out (by simp))
                              have HOWP := Lib.hid (HO3.out.trans HOr.out (by simp))
                              have hlA := HAP.out.len
                              obtain ⟨bx0, bx1, bx2, bx3, bx4, bx5, bx6, bx7, bx8, bx9, bx10, bx11, bx12, bx13, bxl⟩ := HXqP.out.facts14
                              clear bx0 bx1 bx2 bx3 bx4 bx5 bx6 bx7 bx8 bx9 bx10 bx12 bx13
                              by_cases hlt : kP < xpartsl.length
                              · obtain ⟨ue, hx⟩ : ∃ e, xpartsl[kP]? = some e := ⟨_, List.getElem?_eq_getElem hlt⟩
                                have hmem : ue ∈ xpartsl := List.mem_of_getElem? hx
                                have hLx := Pa.Li.keep _ _ _ (HAP.out.sub ue hmem) HOWP.out
                                have HTK := Lib.hid (show (xpartsl.take (kP + 1)).all Pa.ok = ((xpartsl.take kP).all Pa.ok && ue.ok) from by rw [List.take_add_one, hx, List.all_append]; simp)
                                have HBAD := Lib.hid (show ue.ok = false → qP = false from fun h => by rw [← HQP.out, List.all_eq_false]; exact ⟨ue, hmem, by rw [h]; decide⟩)
                                have hrx := (HAP.out.row kP _ hx).keep HOWP.out
                                have hki : (0 : Int) ≤ (kP : Int) := by omega
                                have hkx : (kP : Int) < (xpartsl.length : Int) := by omega
                                clear hx hmem
                                obtain ⟨un, um⟩ := ue
                                obtain ⟨ba, oa, hAe, hba, c0, c1⟩ := Pa.at_cells hrx
                                have HCX := Lib.hid (show ba < wqP.heap.size ∧ wqP.cell? ⟨ba, oa + kP * 2, none⟩ = some (.string un) ∧ wqP.cell? ⟨ba, oa + kP * 2 + 1, none⟩ = some (.string um) from ⟨hba, c0, c1⟩)
                                subst hAe
                                clear hrx hba c0 c1
                                have HV0 := Lib.hid (Only.refl [] wqP)
                                have hE : Pa.ok (.mk un um) = (nmB un && nmB um) := rfl
                                have hA0 := fun W (_ : Only [] wqP W) => refname_any (w := W) hLx.1
                                have hA1 := fun W (_ : Only [] wqP W) => refname_any (w := W) hLx.2
                                obtain ⟨p0, hp0⟩ : ∃ q, nmB un = q := ⟨_, rfl⟩
                                obtain ⟨p1, hp1⟩ : ∃ q, nmB um = q := ⟨_, rfl⟩
                                simp only [hp0] at hA0 hE
                                simp only [hp1] at hA1 hE
                                have HEU := Lib.hid hE
                                have HCA := Lib.hid hA0
                                have HCB := Lib.hid hA1
                                clear hA0 hA1 hE hp0 hp1 hLx
                                have hb := Nat.lt_of_lt_of_le HCX.out.1 HV0.out.size
                                have c0 := (HV0.out.cell (p := ⟨ba, oa + kP * 2, none⟩) HCX.out.1 (by simp)).trans HCX.out.2.1
                                go_wp2_with (fail)
                                refine (HCA.out _ HV0.out).mono ?_
                                rintro r v1 ⟨rfl, o⟩
                                have HV1 := Lib.hid (HV0.out.trans o (by simp))
                                clear o c0 hb bx11 bxl
                                cases p0
                                · go_wp2_with (fail)
                                  go_ret
                                  exact ⟨by rw [show qP = false from HBAD.out (HEU.out)]; simp only [Bool.and_true, Bool.true_and, Bool.and_false, Bool.false_and] <;> rfl, HOWP.out.trans HV1.out (by simp)⟩
                                · obtain ⟨bx0, bx1, bx2, bx3, bx4, bx5, bx6, bx7, bx8, bx9, bx10, bx11, bx12, bx13, bxl⟩ := (HV1.out.blk HXqP.out (by simp)).facts14
                                  clear bx0 bx1 bx2 bx3 bx4 bx5 bx6 bx7 bx8 bx9 bx10 bx12 bx13
                                  have hb := Nat.lt_of_lt_of_le HCX.out.1 HV1.out.size
                                  have c1 := (HV1.out.cell (p := ⟨ba, oa + kP * 2 + 1, none⟩) HCX.out.1 (by simp)).trans HCX.out.2.2
                                  go_wp2_with (fail)
                                  refine (HCB.out _ HV1.out).mono ?_
                                  rintro r v2 ⟨rfl, o⟩
                                  have HV2 := Lib.hid (HV1.out.trans o (by simp))
                                  clear o c1 hb bx11 bxl
                                  cases p1
                                  · go_wp2_with (fail)
                                    go_ret
                                    exact ⟨by rw [show qP = false from HBAD.out (HEU.out)]; simp only [Bool.and_true, Bool.true_and, Bool.and_false, Bool.false_and] <;> rfl, HOWP.out.trans HV2.out (by simp)⟩
                                  · go_wp2_with (fail)
                                    go_roundw
                                    case rel => exact ⟨kP + 1, by go_num, by omega, Lib.hid (by rw [HTK.out, HP.out, HEU.out]; rfl), Lib.hid (HOr.out.trans HV2.out (by simp))⟩
                                    case measure => simp [intOf] <;> omega
                              · obtain rfl : kP = xpartsl.length := by omega
                                have iz : ¬ (xpartsl.length : Int) < (xpartsl.length : Int) := by omega
                                have hq : qP = true := by rw [← HQP.out]; have h := HP.out; rw [List.take_length] at h; exact h
                                subst hq
                                go_wp2_with (fail)
                                clear iz hlt hk bx11 bxl
                                have HX13 := HXqP
                                have HO13 := HOWP
                                clear HP HOr hlA
                                go_loopw [6] (fun i wr => ∃ k : Nat, i = .int .i64 k ∧ k ≤ xlinksl.length ∧ Hid ((xlinksl.take k).all Lk.ok = true) ∧ Hid (Only [] wqP wr)) (fun i _ => xlinksl.length - (intOf i).toNat)
                                case atStart => exact ⟨0, rfl, Nat.zero_le _, Lib.hid (by simp), Lib.hid (Only.refl _ _)⟩
                                case round =>
                                  obtain ⟨kL, rfl, hk, HP, HOr⟩ := hrel
                                  obtain ⟨wqL, hwq⟩ : ∃ wq : World, wq = wr := ⟨_, rfl⟩
                                  subst hwq
                                  have HXqL := Lib.hid (HOr.out.blk HX13.out (by simp))
                                  have HOWL := Lib.hid (HO13.out.trans HOr.out (by simp))
                                  have hlA := HAL.out.len
                                  obtain ⟨bx0, bx1, bx2, bx3, bx4, bx5, bx6, bx7, bx8, bx9, bx10, bx11, bx12, bx13, bxl⟩ := HXqL.out.facts14
                                  clear bx0 bx1 bx2 bx3 bx4 bx5 bx6 bx7 bx8 bx9 bx10 bx11 bx13
                                  by_cases hlt : kL < xlinksl.length
                                  · obtain ⟨ue, hx⟩ : ∃ e, xlinksl[kL]? = some e := ⟨_, List.getElem?_eq_getElem hlt⟩
                                    have hmem : ue ∈ xlinksl := List.mem_of_getElem? hx
                                    have hLx := Lk.Li.keep _ _ _ (HAL.out.sub ue hmem) HOWL.out
                                    have HTK := Lib.hid (show (xlinksl.take (kL + 1)).all Lk.ok = ((xlinksl.take kL).all Lk.ok && ue.ok) from by rw [List.take_add_one, hx, List.all_append]; simp)
                                    have HBAD := Lib.hid (show ue.ok = false → qL = false from fun h => by rw [← HQL.out, List.all_eq_false]; exact ⟨ue, hmem, by rw [h]; decide⟩)
                                    have hrx := (HAL.out.row kL _ hx).keep HOWL.out
                                    have hki : (0 : Int) ≤ (kL : Int) := by omega
                                    have hkx : (kL : Int) < (xlinksl.length : Int) := by omega
                                    clear hx hmem
                                    obtain ⟨ua, ub, uc, ud⟩ := ue
                                    obtain ⟨ba, oa, hAe, hba, c0, c1, c2, c3⟩ := Lk.at_cells hrx
                                    have HCX := Lib.hid (show ba < wqL.heap.size ∧ wqL.cell? ⟨ba, oa + kL * 4, none⟩ = some (.string ua) ∧ wqL.cell? ⟨ba, oa + kL * 4 + 1, none⟩ = some (.string ub) ∧ wqL.cell? ⟨ba, oa + kL * 4 + 2, none⟩ = some (.string uc) ∧ wqL.cell? ⟨ba, oa + kL * 4 + 3, none⟩ = some (.string ud) from ⟨hba, c0, c1, c2, c3⟩)
                                    subst hAe
                                    clear hrx hba c0 c1 c2 c3
                                    have HV0 := Lib.hid (Only.refl [] wqL)
                                    have hA0 := fun W (o : Only [] wqL W) => (show Calls Tryd.prog 78 #[.agg #[.string ua, .string ub, .string uc, .string ud]] W fun r w' => r = .returned (.bool (Lk.ok (.mk ua ub uc ud))) ∧ Only [] W w' from qrightLk (e := .mk ua ub uc ud) (Lk.Li.keep _ _ _ hLx o))
                                    obtain ⟨p0, hp0⟩ : ∃ q, Lk.ok (.mk ua ub uc ud) = q := ⟨_, rfl⟩
                                    simp only [hp0] at hA0
                                    have HEU := Lib.hid hp0
                                    have HCA := Lib.hid hA0
                                    clear hA0 hp0 hLx
                                    have hb := Nat.lt_of_lt_of_le HCX.out.1 HV0.out.size
                                    have c0 := (HV0.out.cell (p := ⟨ba, oa + kL * 4, none⟩) HCX.out.1 (by simp)).trans HCX.out.2.1
                                    have c1 := (HV0.out.cell (p := ⟨ba, oa + kL * 4 + 1, none⟩) HCX.out.1 (by simp)).trans HCX.out.2.2.1
                                    have c2 := (HV0.out.cell (p := ⟨ba, oa + kL * 4 + 2, none⟩) HCX.out.1 (by simp)).trans HCX.out.2.2.2.1
                                    have c3 := (HV0.out.cell (p := ⟨ba, oa + kL * 4 + 3, none⟩) HCX.out.1 (by simp)).trans HCX.out.2.2.2.2
                                    go_wp2_with (fail)
                                    refine (HCA.out _ HV0.out).mono ?_
                                    rintro r v1 ⟨rfl, o⟩
                                    have HV1 := Lib.hid (HV0.out.trans o (by simp))
                                    clear o c0 c1 c2 c3 hb bx12 bxl
                                    cases p0
                                    · go_wp2_with (fail)
                                      go_ret
                                      exact ⟨by rw [show qL = false from HBAD.out (HEU.out)]; simp only [Bool.and_true, Bool.true_and, Bool.and_false, Bool.false_and] <;> rfl, HOWL.out.trans HV1.out (by simp)⟩
                                    · go_wp2_with (fail)
                                      go_roundw
                                      case rel => exact ⟨kL + 1, by go_num, by omega, Lib.hid (by rw [HTK.out, HP.out, HEU.out]; rfl), Lib.hid (HOr.out.trans HV1.out (by simp))⟩
                                      case measure => simp [intOf] <;> omega
                                  · obtain rfl : kL = xlinksl.length := by omega
                                    have iz : ¬ (xlinksl.length : Int) < (xlinksl.length : Int) := by omega
                                    have hq : qL = true := by rw [← HQL.out]; have h := HP.out; rw [List.take_length] at h; exact h
                                    subst hq
                                    go_wp2_with (fail)
                                    clear iz hlt hk bx12 bxl
                                    have HX23 := HXqL
                                    have HO23 := HOWL
                                    clear HP HOr hlA
                                    go_loopw [7, 8] (fun i j wr => ∃ (k : Nat) (j9 : Value), i = .int .i64 k ∧ j = j9 ∧ k ≤ xrulesl.length ∧ Hid ((xrulesl.take k).all Ru.ok = true) ∧ Hid (Only [] wqL wr)) (fun i _ _ => xrulesl.length - (intOf i).toNat)
                                    case atStart => exact ⟨0, _, rfl, rfl, Nat.zero_le _, Lib.hid (by simp), Lib.hid (Only.refl _ _)⟩
                                    case round =>
                                      obtain ⟨kR, j9, rfl, rfl, hk, HP, HOr⟩ := hrel
                                      obtain ⟨wqR, hwq⟩ : ∃ wq : World, wq = wr := ⟨_, rfl⟩
                                      subst hwq
                                      have HXqR := Lib.hid (HOr.out.blk HX23.out (by simp))
                                      have HOWR := Lib.hid (HO23.out.trans HOr.out (by simp))
                                      have hlA := HAR.out.len
                                      obtain ⟨bx0, bx1, bx2, bx3, bx4, bx5, bx6, bx7, bx8, bx9, bx10, bx11, bx12, bx13, bxl⟩ := HXqR.out.facts14
                                      clear bx0 bx1 bx2 bx3 bx4 bx5 bx6 bx7 bx8 bx9 bx10 bx11 bx12
                                      by_cases hlt : kR < xrulesl.length
                                      · obtain ⟨ue, hx⟩ : ∃ e, xrulesl[kR]? = some e := ⟨_, List.getElem?_eq_getElem hlt⟩
                                        have hmem : ue ∈ xrulesl := List.mem_of_getElem? hx
                                        have hLx := Ru.Li.keep _ _ _ (HAR.out.sub ue hmem) HOWR.out
                                        have HTK := Lib.hid (show (xrulesl.take (kR + 1)).all Ru.ok = ((xrulesl.take kR).all Ru.ok && ue.ok) from by rw [List.take_add_one, hx, List.all_append]; simp)
                                        have HBAD := Lib.hid (show ue.ok = false → qR = false from fun h => by rw [← HQR.out, List.all_eq_false]; exact ⟨ue, hmem, by rw [h]; decide⟩)
                                        have hrx := (HAR.out.row kR _ hx).keep HOWR.out
                                        have hki : (0 : Int) ≤ (kR : Int) := by omega
                                        have hkx : (kR : Int) < (xrulesl.length : Int) := by omega
                                        clear hx hmem
                                        obtain ⟨ueo, uen, ues, ueu, ueA, uec, uel, usA, usc, usl⟩ := ue
                                        obtain ⟨ba, oa, hAe, hba, c0, c1, c2, c3, c4, c5⟩ := Ru.at_cells hrx
                                        have HCX := Lib.hid (show ba < wqR.heap.size ∧ wqR.cell? ⟨ba, oa + kR * 6, none⟩ = some (.int .i64 ueo) ∧ wqR.cell? ⟨ba, oa + kR * 6 + 1, none⟩ = some (.int .i64 uen) ∧ wqR.cell? ⟨ba, oa + kR * 6 + 2, none⟩ = some (.string ues) ∧ wqR.cell? ⟨ba, oa + kR * 6 + 3, none⟩ = some (.string ueu) ∧ wqR.cell? ⟨ba, oa + kR * 6 + 4, none⟩ = some (.slice ueA uel.length uec) ∧ wqR.cell? ⟨ba, oa + kR * 6 + 5, none⟩ = some (.slice usA usl.length usc) from ⟨hba, c0, c1, c2, c3, c4, c5⟩)
                                        subst hAe
                                        clear hrx hba c0 c1 c2 c3 c4 c5
                                        have HV0 := Lib.hid (Only.refl [] wqR)
                                        have HUS := Lib.hid (show RowX Ac.cs 7 Ac.Li wqR usA usl from hLx.2)
                                        have hA0 := fun W (o : Only [] wqR W) => (show Calls Tryd.prog 22 #[.agg #[.int .i64 ueo, .int .i64 uen, .string ues, .string ueu, .slice ueA uel.length uec], .int .i64 20] W fun r w' => r = .returned (.bool ((Ex.mk ueo uen ues ueu ueA uec uel).tr.ok)) ∧ Only [] W w' from rr_ok (hLx.1.keep o))
                                        have hE : Ru.ok (.mk ueo uen ues ueu ueA uec uel usA usc usl) = (decide (usl.length ≤ 5) && (Ex.mk ueo uen ues ueu ueA uec uel).tr.ok && usl.all Ac.ok) := rfl
                                        obtain ⟨p0, hp0⟩ : ∃ q, (Ex.mk ueo uen ues ueu ueA uec uel).tr.ok = q := ⟨_, rfl⟩
                                        simp only [hp0] at hA0 hE
                                        obtain ⟨p1, hp1⟩ : ∃ q, usl.all Ac.ok = q := ⟨_, rfl⟩
                                        simp only [hp1] at hE
                                        have HPI := Lib.hid hp1
                                        have HEU0 := Lib.hid hE
                                        have HCA := Lib.hid hA0
                                        clear hA0 hE hp0 hp1 hLx
                                        have hb := Nat.lt_of_lt_of_le HCX.out.1 HV0.out.size
                                        have c0 := (HV0.out.cell (p := ⟨ba, oa + kR * 6, none⟩) HCX.out.1 (by simp)).trans HCX.out.2.1
                                        have c1 := (HV0.out.cell (p := ⟨ba, oa + kR * 6 + 1, none⟩) HCX.out.1 (by simp)).trans HCX.out.2.2.1
                                        have c2 := (HV0.out.cell (p := ⟨ba, oa + kR * 6 + 2, none⟩) HCX.out.1 (by simp)).trans HCX.out.2.2.2.1
                                        have c3 := (HV0.out.cell (p := ⟨ba, oa + kR * 6 + 3, none⟩) HCX.out.1 (by simp)).trans HCX.out.2.2.2.2.1
                                        have c4 := (HV0.out.cell (p := ⟨ba, oa + kR * 6 + 4, none⟩) HCX.out.1 (by simp)).trans HCX.out.2.2.2.2.2.1
                                        go_wp2_with (fail)
                                        refine (HCA.out _ HV0.out).mono ?_
                                        rintro r v1 ⟨rfl, o⟩
                                        have HV1 := Lib.hid (HV0.out.trans o (by simp))
                                        clear o c0 c1 c2 c3 c4 hb bx13 bxl
                                        cases p0
                                        · go_wp2_with (fail)
                                          go_ret
                                          exact ⟨by rw [show qR = false from HBAD.out (HEU0.out.trans (show _ = false from by simp only [Bool.and_false, Bool.false_and]))]; simp only [Bool.and_true, Bool.true_and, Bool.and_false] <;> rfl, HOWR.out.trans HV1.out (by simp)⟩
                                        · obtain ⟨bx0, bx1, bx2, bx3, bx4, bx5, bx6, bx7, bx8, bx9, bx10, bx11, bx12, bx13, bxl⟩ := (HV1.out.blk HXqR.out (by simp)).facts14
                                          clear bx0 bx1 bx2 bx3 bx4 bx5 bx6 bx7 bx8 bx9 bx10 bx11 bx12
                                          have hb := Nat.lt_of_lt_of_le HCX.out.1 HV1.out.size
                                          have c5 := (HV1.out.cell (p := ⟨ba, oa + kR * 6 + 5, none⟩) HCX.out.1 (by simp)).trans HCX.out.2.2.2.2.2.2
                                          have hls := HUS.out.len
                                          by_cases e : usl.length ≤ 5
                                          · have ea : decide (5 < usl.length) = false := decide_eq_false (by omega)
                                            have eb : decide ((5 : Int) < (usl.length : Int)) = false := decide_eq_false (by omega)
                                            have HEU := Lib.hid (HEU0.out.trans (show (decide (usl.length ≤ 5) && true && p1) = p1 from by simp only [decide_eq_true e, Bool.true_and]))
                                            clear e HEU0
                                            go_wp2_with (fail)
                                            clear ea eb c5 hb bx13 bxl
                                            go_loopw [8] (fun i wr => ∃ k : Nat, i = .int .i64 k ∧ k ≤ usl.length ∧ Hid ((usl.take k).all Ac.ok = true) ∧ Hid (Only [] v1 wr)) (fun i _ => usl.length - (intOf i).toNat)
                                            case atStart => exact ⟨0, rfl, Nat.zero_le _, Lib.hid (by simp), Lib.hid (Only.refl _ _)⟩
                                            case round =>
                                              obtain ⟨kA, rfl, hkA, HPA, HOs⟩ := hrel
                                              obtain ⟨wqA, hwq⟩ : ∃ wq : World, wq = wr := ⟨_, rfl⟩
                                              subst hwq
                                              have HV2 := Lib.hid (HV1.out.trans HOs.out (by simp))
                                              obtain ⟨bx0, bx1, bx2, bx3, bx4, bx5, bx6, bx7, bx8, bx9, bx10, bx11, bx12, bx13, bxl⟩ := (HV2.out.blk HXqR.out (by simp)).facts14
                                              clear bx0 bx1 bx2 bx3 bx4 bx5 bx6 bx7 bx8 bx9 bx10 bx11 bx12
                                              have hb := Nat.lt_of_lt_of_le HCX.out.1 HV2.out.size
                                              have c5 := (HV2.out.cell (p := ⟨ba, oa + kR * 6 + 5, none⟩) HCX.out.1 (by simp)).trans HCX.out.2.2.2.2.2.2
                                              by_cases hlt : kA < usl.length
                                              · obtain ⟨me, hx⟩ : ∃ e, usl[kA]? = some e := ⟨_, List.getElem?_eq_getElem hlt⟩
                                                have hmem : me ∈ usl := List.mem_of_getElem? hx
                                                have hLm := Ac.Li.keep _ _ _ (HUS.out.sub me hmem) HV2.out
                                                have HTKA := Lib.hid (show (usl.take (kA + 1)).all Ac.ok = ((usl.take kA).all Ac.ok && me.ok) from by rw [List.take_add_one, hx, List.all_append]; simp)
                                                have HBADA := Lib.hid (show me.ok = false → p1 = false from fun h => by rw [← HPI.out, List.all_eq_false]; exact ⟨me, hmem, by rw [h]; decide⟩)
                                                have hrm := (HUS.out.row kA _ hx).keep HV2.out
                                                have hka : (0 : Int) ≤ (kA : Int) := by omega
                                                have hkax : (kA : Int) < (usl.length : Int) := by omega
                                                have hA0 := fun W (o : Only [] wqA W) => qrightAc (e := me) (Ac.Li.keep _ _ _ hLm o)
                                                obtain ⟨pa, hpa⟩ : ∃ q, Ac.ok me = q := ⟨_, rfl⟩
                                                simp only [hpa] at hA0
                                                have HPC := Lib.hid hpa
                                                obtain ⟨mk, mn, mm, ma, mb, mc, md⟩ := me
                                                obtain ⟨bb, ob, hBe, hbb, d0, d1, d2, d3, d4, d5, d6⟩ := Ac.at_cells hrm
                                                have HCA2 := Lib.hid (show ∀ W, Only [] wqA W → Calls Tryd.prog 79 #[.agg #[.int .i64 mk, .string mn, .string mm, .string ma, .string mb, .string mc, .string md]] W fun r w' => r = .returned (.bool pa) ∧ Only [] W w' from hA0)
                                                clear hx hmem hLm hrm hA0 hpa
                                                subst hBe
                                                go_wp2_with (fail)
                                                refine (HCA2.out _ (Only.refl _ _)).mono ?_
                                                rintro r v3 ⟨rfl, o⟩
                                                have HO8 := Lib.hid (HOs.out.trans o (by simp))
                                                have HV3 := Lib.hid (HV1.out.trans HO8.out (by simp))
                                                clear o hbb d0 d1 d2 d3 d4 d5 d6 c5 hb bx13 bxl
                                                cases pa
                                                · have hq : p1 = false := HBADA.out HPC.out
                                                  subst hq
                                                  go_wp2_with (fail)
                                                  go_ret
                                                  exact ⟨by rw [show qR = false from HBAD.out (HEU.out)]; simp only [Bool.and_true, Bool.true_and, Bool.and_false] <;> rfl, HOWR.out.trans HV3.out (by simp)⟩
                                                · go_wp2_with (fail)
                                                  go_roundw
                                                  case rel => exact ⟨kA + 1, by go_num, by omega, Lib.hid (by rw [HTKA.out, HPA.out, HPC.out]; rfl), HO8⟩
                                                  case measure => simp [intOf] <;> omega
                                              · obtain rfl : kA = usl.length := by omega
                                                have iz : ¬ (usl.length : Int) < (usl.length : Int) := by omega
                                                have hq : p1 = true := by rw [← HPI.out]; have h := HPA.out; rw [List.take_length] at h; exact h
                                                subst hq
                                                go_wp2_with (fail)
                                                go_roundw
                                                case rel => exact ⟨kR + 1, _, by go_num, rfl, by omega, Lib.hid (by rw [HTK.out, HP.out, HEU.out]; rfl), Lib.hid (HOr.out.trans HV2.out (by simp))⟩
                                                case measure => simp [intOf] <;> omega
                                          · have ea : decide (5 < usl.length) = true := decide_eq_true (by omega)
                                            have eb : decide ((5 : Int) < (usl.length : Int)) = true := decide_eq_true (by omega)
                                            have HEU := Lib.hid (HEU0.out.trans (show _ = false from by simp only [decide_eq_false e, Bool.false_and]))
                                            clear e
                                            go_wp2_with (fail)
                                            go_ret
                                            exact ⟨by rw [show qR = false from HBAD.out (HEU.out)]; simp only [Bool.and_true, Bool.true_and, Bool.and_false] <;> rfl, HOWR.out.trans HV1.out (by simp)⟩
                                      · obtain rfl : kR = xrulesl.length := by omega
                                        have iz : ¬ (xrulesl.length : Int) < (xrulesl.length : Int) := by omega
                                        have hq : qR = true := by rw [← HQR.out]; have h := HP.out; rw [List.take_length] at h; exact h
                                        subst hq
                                        go_wp2_with (fail)
                                        clear iz hlt hk bx13 bxl
                                        have HX33 := HXqR
                                        have HO33 := HOWR
                                        clear HP HOr hlA
                                        go_ret
                                        exact ⟨by simp only [E3.out, E4.out, E5.out, E6.out, E7.out, E8.out, E9.out, E10.out, E11.out, E12.out, Bool.and_true] <;> rfl, HO33.out⟩
                          · have e12a : decide (xrulesl.length ≤ 4) = false := by first | exact decide_eq_false (by omega) | (simp [e12]; done) | (simp; omega)
                            have e12b : decide ((xrulesl.length : Int) ≤ 4) = false := by first | exact decide_eq_false (by omega) | (simp [e12]; done) | (simp; omega)
                            have e12c : decide (4 < xrulesl.length) = true := by first | exact decide_eq_true (by omega) | (simp [e12]; done) | (simp; omega)
                            have e12d : decide ((4 : Int) < (xrulesl.length : Int)) = true := by first | exact decide_eq_true (by omega) | (simp [e12]; done) | (simp; omega)
                            have E12 := Lib.hid (HZ12.out.symm.trans (decide_eq_false (by omega)))
                            clear e12
                            go_wp2_with (fail)
                            go_ret
                            exact ⟨by simp only [E3.out, E4.out, E5.out, E6.out, E7.out, E8.out, E9.out, E10.out, E11.out, E12.out, Bool.and_true, Bool.and_false, Bool.false_and] <;> rfl, HO3.out⟩
                        · have e11a : decide (xlinksl.length ≤ 200) = false := by first | exact decide_eq_false (by omega) | (simp [e11]; done) | (simp; omega)
                          have e11b : decide ((xlinksl.length : Int) ≤ 200) = false := by first | exact decide_eq_false (by omega) | (simp [e11]; done) | (simp; omega)
                          have e11c : decide (200 < xlinksl.length) = true := by first | exact decide_eq_true (by omega) | (simp [e11]; done) | (simp; omega)
                          have e11d : decide ((200 : Int) < (xlinksl.length : Int)) = true := by first | exact decide_eq_true (by omega) | (simp [e11]; done) | (simp; omega)
                          have E11 := Lib.hid (HZ11.out.symm.trans (decide_eq_false (by omega)))
                          clear e11
                          go_wp2_with (fail)
                          go_ret
                          exact ⟨by simp only [E3.out, E4.out, E5.out, E6.out, E7.out, E8.out, E9.out, E10.out, E11.out, Bool.and_true, Bool.and_false, Bool.false_and] <;> rfl, HO3.out⟩
                      · have e10a : decide (xpartsl.length ≤ 32) = false := by first | exact decide_eq_false (by omega) | (simp [e10]; done) | (simp; omega)
                        have e10b : decide ((xpartsl.length : Int) ≤ 32) = false := by first | exact decide_eq_false (by omega) | (simp [e10]; done) | (simp; omega)
                        have e10c : decide (32 < xpartsl.length) = true := by first | exact decide_eq_true (by omega) | (simp [e10]; done) | (simp; omega)
                        have e10d : decide ((32 : Int) < (xpartsl.length : Int)) = true := by first | exact decide_eq_true (by omega) | (simp [e10]; done) | (simp; omega)
                        have E10 := Lib.hid (HZ10.out.symm.trans (decide_eq_false (by omega)))
                        clear e10
                        go_wp2_with (fail)
                        go_ret
                        exact ⟨by simp only [E3.out, E4.out, E5.out, E6.out, E7.out, E8.out, E9.out, E10.out, Bool.and_true, Bool.and_false, Bool.false_and] <;> rfl, HO3.out⟩
                    · have e9a : (xcon == 0) = false := by first | exact decide_eq_false (by omega) | (simp [e9]; done) | (simp; omega)
                      have e9b : (xcon != 0) = true := by first | exact decide_eq_true (by omega) | (simp [e9]; done) | (simp; omega)
                      have E9 := Lib.hid (HZ9.out.symm.trans (decide_eq_false (by omega)))
                      clear e9
                      go_wp2_with (fail)
                      go_ret
                      exact ⟨by simp only [E3.out, E4.out, E5.out, E6.out, E7.out, E8.out, E9.out, Bool.and_true, Bool.and_false, Bool.false_and] <;> rfl, HO3.out⟩
                  · have e8a : decide (0 < xownl.length) = true := by first | exact decide_eq_true (by omega) | (simp [e8]; done) | (simp; omega)
                    have e8b : decide ((0 : Int) < (xownl.length : Int)) = true := by first | exact decide_eq_true (by omega) | (simp [e8]; done) | (simp; omega)
                    have E8 := Lib.hid (HZ8.out.symm.trans (decide_eq_false (by omega)))
                    clear e8
                    go_wp2_with (fail)
                    go_ret
                    exact ⟨by simp only [E3.out, E4.out, E5.out, E6.out, E7.out, E8.out, Bool.and_true, Bool.and_false, Bool.false_and] <;> rfl, HO3.out⟩
                · have e7a : decide (0 < xextl.length) = true := by first | exact decide_eq_true (by omega) | (simp [e7]; done) | (simp; omega)
                  have e7b : decide ((0 : Int) < (xextl.length : Int)) = true := by first | exact decide_eq_true (by omega) | (simp [e7]; done) | (simp; omega)
                  have E7 := Lib.hid (HZ7.out.symm.trans (decide_eq_false (by omega)))
                  clear e7
                  go_wp2_with (fail)
                  go_ret
                  exact ⟨by simp only [E3.out, E4.out, E5.out, E6.out, E7.out, Bool.and_true, Bool.and_false, Bool.false_and] <;> rfl, HO3.out⟩
              · have e6a : decide (0 < xintl.length) = true := by first | exact decide_eq_true (by omega) | (simp [e6]; done) | (simp; omega)
                have e6b : decide ((0 : Int) < (xintl.length : Int)) = true := by first | exact decide_eq_true (by omega) | (simp [e6]; done) | (simp; omega)
                have E6 := Lib.hid (HZ6.out.symm.trans (decide_eq_false (by omega)))
                clear e6
                go_wp2_with (fail)
                go_ret
                exact ⟨by simp only [E3.out, E4.out, E5.out, E6.out, Bool.and_true, Bool.and_false, Bool.false_and] <;> rfl, HO3.out⟩
            · have e5a : decide (0 < xemitsl.length) = true := by first | exact decide_eq_true (by omega) | (simp [e5]; done) | (simp; omega)
              have e5b : decide ((0 : Int) < (xemitsl.length : Int)) = true := by first | exact decide_eq_true (by omega) | (simp [e5]; done) | (simp; omega)
              have E5 := Lib.hid (HZ5.out.symm.trans (decide_eq_false (by omega)))
              clear e5
              go_wp2_with (fail)
              go_ret
              exact ⟨by simp only [E3.out, E4.out, E5.out, Bool.and_true, Bool.and_false, Bool.false_and] <;> rfl, HO3.out⟩
          · have e4a : decide (0 < xtal.length) = true := by first | exact decide_eq_true (by omega) | (simp [e4]; done) | (simp; omega)
            have e4b : decide ((0 : Int) < (xtal.length : Int)) = true := by first | exact decide_eq_true (by omega) | (simp [e4]; done) | (simp; omega)
            have E4 := Lib.hid (HZ4.out.symm.trans (decide_eq_false (by omega)))
            clear e4
            go_wp2_with (fail)
            go_ret
            exact ⟨by simp only [E3.out, E4.out, Bool.and_true, Bool.and_false, Bool.false_and] <;> rfl, HO3.out⟩
        · have e3a : decide (0 < xvarsl.length) = true := by first | exact decide_eq_true (by omega) | (simp [e3]; done) | (simp; omega)
          have e3b : decide ((0 : Int) < (xvarsl.length : Int)) = true := by first | exact decide_eq_true (by omega) | (simp [e3]; done) | (simp; omega)
          have E3 := Lib.hid (HZ3.out.symm.trans (decide_eq_false (by omega)))
          clear e3
          go_wp2_with (fail)
          go_ret
          exact ⟨by simp only [E3.out, Bool.and_true, Bool.and_false, Bool.false_and] <;> rfl, HO3.out⟩
end Go.Proofs.YtfnacnlaphpflaaDoor
