/- ModelRight, the document's, of an atomic model. -/
import Derived.Test.YtfnacnlaphpflaaDoorPQt
namespace Go.Proofs.YtfnacnlaphpflaaDoor
open Go.RowKit Go.Kx
open Go.Val (Tt)
set_option maxRecDepth 100000
theorem exsOk_one {l : List Ex} {t : Ex} (h : l.length = 1) (ht : l[0]? = some t) : exsOk l = t.tr.ok := by
  match l, h with
  | [a], _ => simp at ht; subst ht; simp [exsOk]
set_option maxHeartbeats 8000000 in
theorem qmodelA {xn : ByteArray} {xinsA : Option Addr} {xinsc : Nat} {xinsl : List Po} {xoutsA : Option Addr} {xoutsc : Nat} {xoutsl : List Po} {xvarsA : Option Addr} {xvarsc : Nat} {xvarsl : List Se} {xtaA : Option Addr} {xtac : Nat} {xtal : List Ex} {xemitsA : Option Addr} {xemitsc : Nat} {xemitsl : List Em} {xintA : Option Addr} {xintc : Nat} {xintl : List Se} {xextA : Option Addr} {xextc : Nat} {xextl : List Se} {xcon : Int} {xownA : Option Addr} {xownc : Nat} {xownl : List Se} {xpartsA : Option Addr} {xpartsc : Nat} {xpartsl : List Pa} {xlinksA : Option Addr} {xlinksc : Nat} {xlinksl : List Lk} {xrulesA : Option Addr} {xrulesc : Nat} {xrulesl : List Ru} {w : World} (ha : Md.Li w (.mk xn false xinsA xinsc xinsl xoutsA xoutsc xoutsl xvarsA xvarsc xvarsl xtaA xtac xtal xemitsA xemitsc xemitsl xintA xintc xintl xextA xextc xextl xcon xownA xownc xownl xpartsA xpartsc xpartsl xlinksA xlinksc xlinksl xrulesA xrulesc xrulesl)) : Calls Tryd.prog 49 #[.agg #[.string xn, .bool false, .slice xinsA xinsl.length xinsc, .slice xoutsA xoutsl.length xoutsc, .slice xvarsA xvarsl.length xvarsc, .slice xtaA xtal.length xtac, .slice xemitsA xemitsl.length xemitsc, .slice xintA xintl.length xintc, .slice xextA xextl.length xextc, .int .i64 xcon, .slice xownA xownl.length xownc, .slice xpartsA xpartsl.length xpartsc, .slice xlinksA xlinksl.length xlinksc, .slice xrulesA xrulesl.length xrulesc]] w fun r w' => r = .returned (.bool (Md.ok (.mk xn false xinsA xinsc xinsl xoutsA xoutsc xoutsl xvarsA xvarsc xvarsl xtaA xtac xtal xemitsA xemitsc xemitsl xintA xintc xintl xextA xextc xextl xcon xownA xownc xownl xpartsA xpartsc xpartsl xlinksA xlinksc xlinksl xrulesA xrulesc xrulesl))) ∧ Only [] w w' := by
  have K0 := Lib.hid (fun W (o : Only [] w W) => (show Calls Tryd.prog 18 #[.string xn] W fun r w' => r = .returned (.bool (nmB xn)) ∧ Only [] W w' from refname_any ha.1))
  have K1 := Lib.hid (fun W (o : Only [] w W) => (show Calls Tryd.prog 76 #[.slice xinsA xinsl.length xinsc] W fun r w' => r = .returned (.bool (portsOk xinsl)) ∧ Only [] W w' from qports_any (cap := xinsc) (ha.2.2.1.keep Po.Li.keep o)))
  have K2 := Lib.hid (fun W (o : Only [] w W) => (show Calls Tryd.prog 76 #[.slice xoutsA xoutsl.length xoutsc] W fun r w' => r = .returned (.bool (portsOk xoutsl)) ∧ Only [] W w' from qports_any (cap := xoutsc) (ha.2.2.2.1.keep Po.Li.keep o)))
  have K3 := Lib.hid (fun W (o : Only [] w W) => (show Calls Tryd.prog 77 #[.slice xvarsA xvarsl.length xvarsc] W fun r w' => r = .returned (.bool (setsOk xvarsl)) ∧ Only [] W w' from qsets_any (cap := xvarsc) (ha.2.2.2.2.1.keep Se.Li.keep o)))
  have K4 := Lib.hid (fun W (o : Only [] w W) => (show Calls Tryd.prog 77 #[.slice xintA xintl.length xintc] W fun r w' => r = .returned (.bool (setsOk xintl)) ∧ Only [] W w' from qsets_any (cap := xintc) (ha.2.2.2.2.2.2.2.1.keep Se.Li.keep o)))
  have K5 := Lib.hid (fun W (o : Only [] w W) => (show Calls Tryd.prog 77 #[.slice xextA xextl.length xextc] W fun r w' => r = .returned (.bool (setsOk xextl)) ∧ Only [] W w' from qsets_any (cap := xextc) (ha.2.2.2.2.2.2.2.2.1.keep Se.Li.keep o)))
  have K6 := Lib.hid (fun W (o : Only [] w W) => (show Calls Tryd.prog 77 #[.slice xownA xownl.length xownc] W fun r w' => r = .returned (.bool (setsOk xownl)) ∧ Only [] W w' from qsets_any (cap := xownc) (ha.2.2.2.2.2.2.2.2.2.2.1.keep Se.Li.keep o)))
  have HAE := Lib.hid (show RowX Em.cs 7 Em.Li w xemitsA xemitsl from ha.2.2.2.2.2.2.1)
  have HTAR := Lib.hid (show RowL w xtaA xtal from ha.2.2.2.2.2.1)
  have HE := Lib.hid (show Md.ok (.mk xn false xinsA xinsc xinsl xoutsA xoutsc xoutsl xvarsA xvarsc xvarsl xtaA xtac xtal xemitsA xemitsc xemitsl xintA xintc xintl xextA xextc xextl xcon xownA xownc xownl xpartsA xpartsc xpartsl xlinksA xlinksc xlinksl xrulesA xrulesc xrulesl) = (nmB xn && portsOk xinsl && portsOk xoutsl && decide (xpartsl.length = 0) && decide (xlinksl.length = 0) && decide (xrulesl.length = 0) && decide (xtal.length = 1) && decide (xemitsl.length ≤ 8) && decide (0 ≤ xcon) && decide (xcon ≤ 2) && (decide (xownl.length = 0) || decide (xcon = 2)) && xemitsl.all Em.ok && setsOk xvarsl && setsOk xintl && setsOk xextl && setsOk xownl && exsOk xtal) from (show _ = (nmB xn && portsOk xinsl && portsOk xoutsl && (decide (xpartsl.length = 0) && decide (xlinksl.length = 0) && decide (xrulesl.length = 0) && decide (0 ≤ xcon) && decide (xcon ≤ 2) && (decide (xownl.length = 0) || decide (xcon = 2)) && setsOk xvarsl && setsOk xintl && setsOk xextl && setsOk xownl && decide (xtal.length = 1) && exsOk xtal && decide (xemitsl.length ≤ 8) && xemitsl.all Em.ok)) from rfl).trans (by ac_rfl))
  obtain ⟨q0, hq0⟩ : ∃ q, nmB xn = q := ⟨_, rfl⟩
  rw [hq0] at HE K0
  clear hq0
  obtain ⟨q1, hq1⟩ : ∃ q, portsOk xinsl = q := ⟨_, rfl⟩
  rw [hq1] at HE K1
  clear hq1
  obtain ⟨q2, hq2⟩ : ∃ q, portsOk xoutsl = q := ⟨_, rfl⟩
  rw [hq2] at HE K2
  clear hq2
  obtain ⟨q3, hq3⟩ : ∃ q, setsOk xvarsl = q := ⟨_, rfl⟩
  rw [hq3] at HE K3
  clear hq3
  obtain ⟨q4, hq4⟩ : ∃ q, setsOk xintl = q := ⟨_, rfl⟩
  rw [hq4] at HE K4
  clear hq4
  obtain ⟨q5, hq5⟩ : ∃ q, setsOk xextl = q := ⟨_, rfl⟩
  rw [hq5] at HE K5
  clear hq5
  obtain ⟨q6, hq6⟩ : ∃ q, setsOk xownl = q := ⟨_, rfl⟩
  rw [hq6] at HE K6
  clear hq6
  obtain ⟨z3, hz⟩ : ∃ z, decide (xpartsl.length = 0) = z := ⟨_, rfl⟩
  rw [hz] at HE
  have HZ3 := Lib.hid hz
  clear hz
  obtain ⟨z4, hz⟩ : ∃ z, decide (xlinksl.length = 0) = z := ⟨_, rfl⟩
  rw [hz] at HE
  have HZ4 := Lib.hid hz
  clear hz
  obtain ⟨z5, hz⟩ : ∃ z, decide (xrulesl.length = 0) = z := ⟨_, rfl⟩
  rw [hz] at HE
  have HZ5 := Lib.hid hz
  clear hz
  obtain ⟨z6, hz⟩ : ∃ z, decide (xtal.length = 1) = z := ⟨_, rfl⟩
  rw [hz] at HE
  have HZ6 := Lib.hid hz
  clear hz
  obtain ⟨z7, hz⟩ : ∃ z, decide (xemitsl.length ≤ 8) = z := ⟨_, rfl⟩
  rw [hz] at HE
  have HZ7 := Lib.hid hz
  clear hz
  obtain ⟨z8, hz⟩ : ∃ z, decide (0 ≤ xcon) = z := ⟨_, rfl⟩
  rw [hz] at HE
  have HZ8 := Lib.hid hz
  clear hz
  obtain ⟨z9, hz⟩ : ∃ z, decide (xcon ≤ 2) = z := ⟨_, rfl⟩
  rw [hz] at HE
  have HZ9 := Lib.hid hz
  clear hz
  obtain ⟨z10x, hz⟩ : ∃ z, decide (xcon = 2) = z := ⟨_, rfl⟩
  rw [hz] at HE
  have HZ10x := Lib.hid hz
  clear hz
  obtain ⟨z10y, hz⟩ : ∃ z, decide (xownl.length = 0) = z := ⟨_, rfl⟩
  rw [hz] at HE
  have HZ10y := Lib.hid hz
  clear hz
  show Calls Tryd.prog 49 #[.agg #[.string xn, .bool false, .slice xinsA xinsl.length xinsc, .slice xoutsA xoutsl.length xoutsc, .slice xvarsA xvarsl.length xvarsc, .slice xtaA xtal.length xtac, .slice xemitsA xemitsl.length xemitsc, .slice xintA xintl.length xintc, .slice xextA xextl.length xextc, .int .i64 xcon, .slice xownA xownl.length xownc, .slice xpartsA xpartsl.length xpartsc, .slice xlinksA xlinksl.length xlinksc, .slice xrulesA xrulesl.length xrulesc]] w fun r w' => r = .returned (.bool (Md.ok (.mk xn false xinsA xinsc xinsl xoutsA xoutsc xoutsl xvarsA xvarsc xvarsl xtaA xtac xtal xemitsA xemitsc xemitsl xintA xintc xintl xextA xextc xextl xcon xownA xownc xownl xpartsA xpartsc xpartsl xlinksA xlinksc xlinksl xrulesA xrulesc xrulesl))) ∧ Only [] w w'
  obtain ⟨qE, hq⟩ : ∃ q, xemitsl.all Em.ok = q := ⟨_, rfl⟩
  rw [hq] at HE
  have HQE := Lib.hid hq
  clear hq
  obtain ⟨qT, hq⟩ : ∃ q, exsOk xtal = q := ⟨_, rfl⟩
  rw [hq] at HE
  have HQT := Lib.hid hq
  clear hq
  rw [HE.out]
  clear HE ha
  have HX0 := Lib.hid (Blk.new w 70 #[.string xn, .bool false, .slice xinsA xinsl.length xinsc, .slice xoutsA xoutsl.length xoutsc, .slice xvarsA xvarsl.length xvarsc, .slice xtaA xtal.length xtac, .slice xemitsA xemitsl.length xemitsc, .slice xintA xintl.length xintc, .slice xextA xextl.length xextc, .int .i64 xcon, .slice xownA xownl.length xownc, .slice xpartsA xpartsl.length xpartsc, .slice xlinksA xlinksl.length xlinksc, .slice xrulesA xrulesl.length xrulesc])
  have HO0 := Lib.hid (show Only [] w (w.alloc (.cells #[.string xn, .bool false, .slice xinsA xinsl.length xinsc, .slice xoutsA xoutsl.length xoutsc, .slice xvarsA xvarsl.length xvarsc, .slice xtaA xtal.length xtac, .slice xemitsA xemitsl.length xemitsc, .slice xintA xintl.length xintc, .slice xextA xextl.length xextc, .int .i64 xcon, .slice xownA xownl.length xownc, .slice xpartsA xpartsl.length xpartsc, .slice xlinksA xlinksl.length xlinksc, .slice xrulesA xrulesl.length xrulesc] 70)) from (Only.refl [] w).alloc _)
  obtain ⟨bx0, bx1, bx2, bx3, bx4, bx5, bx6, bx7, bx8, bx9, bx10, bx11, bx12, bx13, bxl⟩ := HX0.out.facts14
  clear bx2 bx3 bx4 bx5 bx6 bx7 bx8 bx9 bx11 bx12 bx13
  go_enter Tryd.func49, Tryd.ntmps49
  go_wp2_with (fail)
  refine (K0.out _ HO0.out).mono ?_
  rintro r w1 ⟨rfl, o1⟩
  have HO1 := Lib.hid (HO0.out.trans o1 (by simp))
  have HX1 := Lib.hid (o1.blk HX0.out (by simp))
  clear o1
  clear bx0 bx10 bx1 bxl
  cases q0
  · go_wp2_with (fail)
    go_ret
    exact ⟨by simp only [Bool.false_and] <;> rfl, HO1.out⟩
  · obtain ⟨bx0, bx1, bx2, bx3, bx4, bx5, bx6, bx7, bx8, bx9, bx10, bx11, bx12, bx13, bxl⟩ := HX1.out.facts14
    clear bx0 bx3 bx4 bx5 bx6 bx7 bx8 bx9 bx11 bx12 bx13
    go_wp2_with (fail)
    refine (K1.out _ HO1.out).mono ?_
    rintro r w2 ⟨rfl, o2⟩
    have HO2 := Lib.hid (HO1.out.trans o2 (by simp))
    have HX2 := Lib.hid (o2.blk HX1.out (by simp))
    clear o2
    clear bx2 bx10 bx1 bxl
    cases q1
    · go_wp2_with (fail)
      go_ret
      exact ⟨by simp only [Bool.and_false, Bool.false_and] <;> rfl, HO2.out⟩
    · obtain ⟨bx0, bx1, bx2, bx3, bx4, bx5, bx6, bx7, bx8, bx9, bx10, bx11, bx12, bx13, bxl⟩ := HX2.out.facts14
      clear bx0 bx2 bx4 bx5 bx6 bx7 bx8 bx9 bx11 bx12 bx13
      go_wp2_with (fail)
      refine (K2.out _ HO2.out).mono ?_
      rintro r w3 ⟨rfl, o3⟩
      have HO3 := Lib.hid (HO2.out.trans o3 (by simp))
      have HX3 := Lib.hid (o3.blk HX2.out (by simp))
      clear o3
      clear bx3 bx10 bx1 bxl
      cases q2
      · go_wp2_with (fail)
        go_ret
        exact ⟨by simp only [Bool.and_true, Bool.and_false, Bool.false_and] <;> rfl, HO3.out⟩
      · obtain ⟨bx0, bx1, bx2, bx3, bx4, bx5, bx6, bx7, bx8, bx9, bx10, bx11, bx12, bx13, bxl⟩ := HX3.out.facts14
        clear bx0 bx2 bx3 bx4 bx7 bx8
        by_cases e3 : xpartsl.length = 0
        · have e3a : decide (0 < xpartsl.length) = false := by first | exact decide_eq_false (by omega) | (simp [e3]; done) | (simp; omega)
          have e3b : decide ((0 : Int) < (xpartsl.length : Int)) = false := by first | exact decide_eq_false (by omega) | (simp [e3]; done) | (simp; omega)
          have E3 := Lib.hid (HZ3.out.symm.trans (decide_eq_true (by omega)))
          clear e3
          by_cases e4 : xlinksl.length = 0
          · have e4a : decide (0 < xlinksl.length) = false := by first | exact decide_eq_false (by omega) | (simp [e4]; done) | (simp; omega)
            have e4b : decide ((0 : Int) < (xlinksl.length : Int)) = false := by first | exact decide_eq_false (by omega) | (simp [e4]; done) | (simp; omega)
            have E4 := Lib.hid (HZ4.out.symm.trans (decide_eq_true (by omega)))
            clear e4
            by_cases e5 : xrulesl.length = 0
            · have e5a : decide (0 < xrulesl.length) = false := by first | exact decide_eq_false (by omega) | (simp [e5]; done) | (simp; omega)
              have e5b : decide ((0 : Int) < (xrulesl.length : Int)) = false := by first | exact decide_eq_false (by omega) | (simp [e5]; done) | (simp; omega)
              have E5 := Lib.hid (HZ5.out.symm.trans (decide_eq_true (by omega)))
              clear e5
              by_cases e6 : xtal.length = 1
              · have e6a : ((xtal.length : Int) == 1) = true := by first | exact decide_eq_true (by omega) | (simp [e6]; done) | (simp; omega)
                have e6b : (xtal.length == 1) = true := by first | exact decide_eq_true (by omega) | (simp [e6]; done) | (simp; omega)
                have e6c : ((xtal.length : Int) != 1) = false := by first | exact decide_eq_false (by omega) | (simp [e6]; done) | (simp; omega)
                have e6d : (xtal.length != 1) = false := by first | exact decide_eq_false (by omega) | (simp [e6]; done) | (simp; omega)
                have E6 := Lib.hid (HZ6.out.symm.trans (decide_eq_true (by omega)))
                clear e6
                by_cases e7 : xemitsl.length ≤ 8
                · have e7a : decide (xemitsl.length ≤ 8) = true := by first | exact decide_eq_true (by omega) | (simp [e7]; done) | (simp; omega)
                  have e7b : decide ((xemitsl.length : Int) ≤ 8) = true := by first | exact decide_eq_true (by omega) | (simp [e7]; done) | (simp; omega)
                  have e7c : decide (8 < xemitsl.length) = false := by first | exact decide_eq_false (by omega) | (simp [e7]; done) | (simp; omega)
                  have e7d : decide ((8 : Int) < (xemitsl.length : Int)) = false := by first | exact decide_eq_false (by omega) | (simp [e7]; done) | (simp; omega)
                  have E7 := Lib.hid (HZ7.out.symm.trans (decide_eq_true (by omega)))
                  clear e7
                  by_cases e8 : 0 ≤ xcon
                  · have e8a : decide (xcon < 0) = false := by first | exact decide_eq_false (by omega) | (simp [e8]; done) | (simp; omega)
                    have E8 := Lib.hid (HZ8.out.symm.trans (decide_eq_true (by omega)))
                    by_cases e9 : xcon ≤ 2
                    · have e9a : decide (2 < xcon) = false := by first | exact decide_eq_false (by omega) | (simp [e9]; done) | (simp; omega)
                      have E9 := Lib.hid (HZ9.out.symm.trans (decide_eq_true (by omega)))
                      by_cases e10x : xcon = 2
                      · have e10xa : decide (xcon < 2) = false := by first | exact decide_eq_false (by omega) | (simp [e10x]; done) | (simp; omega)
                        have E10x := Lib.hid (HZ10x.out.symm.trans (decide_eq_true (by omega)))
                        clear e10x
                        go_wp2_with (fail)
                        clear bx11 bx12 bx13 bx5 bx6 bx9 bx10 bx1 bxl
                        go_loopw [3, 4] (fun i j wr => ∃ (k : Nat) (j9 : Value), i = .int .i64 k ∧ j = j9 ∧ k ≤ xemitsl.length ∧ Hid ((xemitsl.take k).all Em.ok = true) ∧ Hid (Only [] w3 wr)) (fun i _ _ => xemitsl.length - (intOf i).toNat)
                        case atStart => exact ⟨0, _, rfl, rfl, Nat.zero_le _, Lib.hid (by simp), Lib.hid (Only.refl _ _)⟩
                        case round =>
                          obtain ⟨kE, j9, rfl, rfl, hk, HP, HOr⟩ := hrel
                          obtain ⟨wqE, hwq⟩ : ∃ wq : World, wq = wr := ⟨_, rfl⟩
                          subst hwq
                          have HXqE := Lib.hid (HOr.out.blk HX3.out (by simp))
                          have HOWE := Lib.hid (HO3.out.trans HOr.out (by simp))
                          have hlA := HAE.out.len
                          obtain ⟨bx0, bx1, bx2, bx3, bx4, bx5, bx6, bx7, bx8, bx9, bx10, bx11, bx12, bx13, bxl⟩ := HXqE.out.facts14
                          clear bx0 bx1 bx2 bx3 bx4 bx5 bx7 bx8 bx9 bx10 bx11 bx12 bx13
                          by_cases hlt : kE < xemitsl.length
                          · obtain ⟨ue, hx⟩ : ∃ e, xemitsl[kE]? = some e := ⟨_, List.getElem?_eq_getElem hlt⟩
                            have hmem : ue ∈ xemitsl := List.mem_of_getElem? hx
                            have hLx := Em.Li.keep _ _ _ (HAE.out.sub ue hmem) HOWE.out
                            have HTK := Lib.hid (show (xemitsl.take (kE + 1)).all Em.ok = ((xemitsl.take kE).all Em.ok && ue.ok) from by rw [List.take_add_one, hx, List.all_append]; simp)
                            have HBAD := Lib.hid (show ue.ok = false → qE = false from fun h => by rw [← HQE.out, List.all_eq_false]; exact ⟨ue, hmem, by rw [h]; decide⟩)
                            have hrx := (HAE.out.row kE _ hx).keep HOWE.out
                            have hki : (0 : Int) ≤ (kE : Int) := by omega
                            have hkx : (kE : Int) < (xemitsl.length : Int) := by omega
                            clear hx hmem
                            obtain ⟨up, ueo, uen, ues, ueu, ueA, uec, uel, uiA, uic, uil⟩ := ue
                            obtain ⟨ba, oa, hAe, hba, c0, c1, c2, c3, c4, c5, c6⟩ := Em.at_cells hrx
                            have HCX := Lib.hid (show ba < wqE.heap.size ∧ wqE.cell? ⟨ba, oa + kE * 7, none⟩ = some (.string up) ∧ wqE.cell? ⟨ba, oa + kE * 7 + 1, none⟩ = some (.int .i64 ueo) ∧ wqE.cell? ⟨ba, oa + kE * 7 + 2, none⟩ = some (.int .i64 uen) ∧ wqE.cell? ⟨ba, oa + kE * 7 + 3, none⟩ = some (.string ues) ∧ wqE.cell? ⟨ba, oa + kE * 7 + 4, none⟩ = some (.string ueu) ∧ wqE.cell? ⟨ba, oa + kE * 7 + 5, none⟩ = some (.slice ueA uel.length uec) ∧ wqE.cell? ⟨ba, oa + kE * 7 + 6, none⟩ = some (.slice uiA uil.length uic) from ⟨hba, c0, c1, c2, c3, c4, c5, c6⟩)
                            subst hAe
                            clear hrx hba c0 c1 c2 c3 c4 c5 c6
                            have HV0 := Lib.hid (show Only [] wqE (wqE.alloc (.cells #[.string up, .int .i64 ueo, .int .i64 uen, .string ues, .string ueu, .slice ueA uel.length uec, .slice uiA uil.length uic] 74)) from (Only.refl [] _).alloc _)
                            have HE0 := Lib.hid (Blk.new wqE 74 #[.string up, .int .i64 ueo, .int .i64 uen, .string ues, .string ueu, .slice ueA uel.length uec, .slice uiA uil.length uic])
                            have HUS := Lib.hid (show RowL wqE uiA uil from hLx.2.2)
                            have hA0 := fun W (_ : Only [] wqE W) => refname_any (w := W) hLx.1
                            have hA1 := fun W (o : Only [] wqE W) => (show Calls Tryd.prog 22 #[.agg #[.int .i64 ueo, .int .i64 uen, .string ues, .string ueu, .slice ueA uel.length uec], .int .i64 20] W fun r w' => r = .returned (.bool ((Ex.mk ueo uen ues ueu ueA uec uel).tr.ok)) ∧ Only [] W w' from rr_ok (hLx.2.1.keep o))
                            have hE : Em.ok (.mk up ueo uen ues ueu ueA uec uel uiA uic uil) = (nmB up && decide (uil.length ≤ 1) && (Ex.mk ueo uen ues ueu ueA uec uel).tr.ok && exsOk uil) := rfl
                            obtain ⟨p0, hp0⟩ : ∃ q, nmB up = q := ⟨_, rfl⟩
                            simp only [hp0] at hA0 hE
                            obtain ⟨p1, hp1⟩ : ∃ q, (Ex.mk ueo uen ues ueu ueA uec uel).tr.ok = q := ⟨_, rfl⟩
                            simp only [hp1] at hA1 hE
                            have HEU0 := Lib.hid hE
                            have HCA := Lib.hid hA0
                            have HCB := Lib.hid hA1
                            clear hA0 hA1 hE hp0 hp1 hLx
                            have hz0 := HCX.out.1
                            have c0 := HCX.out.2.1
                            have c1 := HCX.out.2.2.1
                            have c2 := HCX.out.2.2.2.1
                            have c3 := HCX.out.2.2.2.2.1
                            have c4 := HCX.out.2.2.2.2.2.1
                            have c5 := HCX.out.2.2.2.2.2.2.1
                            have c6 := HCX.out.2.2.2.2.2.2.2
                            go_wp2_with (fail)
                            refine (HCA.out _ HV0.out).mono ?_
                            rintro r v1 ⟨rfl, o⟩
                            have HV1 := Lib.hid (HV0.out.trans o (by simp))
                            have HE1 := Lib.hid (o.blk HE0.out (by simp))
                            clear o c0 c1 c2 c3 c4 c5 c6 hz0 bx6 bxl
                            cases p0
                            · go_wp2_with (fail)
                              go_ret
                              exact ⟨by rw [show qE = false from HBAD.out (HEU0.out.trans (show _ = false from by simp only [Bool.false_and]))]; simp only [Bool.and_true, Bool.true_and, Bool.and_false, Bool.false_and] <;> rfl, HOWE.out.trans HV1.out (by simp)⟩
                            · obtain ⟨a0, a1, a2, a3, a4, a5, a6, al⟩ := HE1.out.facts7
                              clear a0 a6
                              go_wp2_with (fail)
                              refine (HCB.out _ HV1.out).mono ?_
                              rintro r v2 ⟨rfl, o⟩
                              have HV2 := Lib.hid (HV1.out.trans o (by simp))
                              have HE2 := Lib.hid (o.blk HE1.out (by simp))
                              clear o a1 a2 a3 a4 a5 al
                              cases p1
                              · go_wp2_with (fail)
                                go_ret
                                exact ⟨by rw [show qE = false from HBAD.out (HEU0.out.trans (show _ = false from by simp only [Bool.and_false, Bool.false_and]))]; simp only [Bool.and_true, Bool.true_and, Bool.and_false, Bool.false_and] <;> rfl, HOWE.out.trans HV2.out (by simp)⟩
                              · obtain ⟨a0, a1, a2, a3, a4, a5, a6, al⟩ := HE2.out.facts7
                                clear a0 a1 a2 a3 a4 a5
                                have hli := HUS.out.len
                                by_cases e : uil.length ≤ 1
                                · have ea : decide (1 < uil.length) = false := decide_eq_false (by omega)
                                  have eb : decide ((1 : Int) < (uil.length : Int)) = false := decide_eq_false (by omega)
                                  have HEU1 := Lib.hid (HEU0.out.trans (show (true && decide (uil.length ≤ 1) && true && exsOk uil) = exsOk uil from by simp only [decide_eq_true e, Bool.true_and]))
                                  clear HEU0
                                  by_cases e1 : uil.length = 1
                                  · have ec : (((uil.length : Nat) : Int) == 1) = true := by simp; omega
                                    have ed : (uil.length == 1) = true := by simp; omega
                                    have hp1 : (0 : Int) < (uil.length : Int) := by omega
                                    have hp2 : 0 < uil.length := by omega
                                    obtain ⟨t, ht⟩ : ∃ t, uil[0]? = some t := ⟨_, List.getElem?_eq_getElem hp2⟩
                                    have hx1 := exsOk_one e1 ht
                                    have hLt := (HUS.out.sub t (List.mem_of_getElem? ht)).keep HV2.out
                                    have hrt := (HUS.out.row 0 _ ht).only HV2.out (by simp)
                                    clear e e1 ht
                                    obtain ⟨yo, yn, ys, yu, yA, yc, yl⟩ := t
                                    obtain ⟨bt, ot, hAt, hbt, d0, d1, d2, d3, d4⟩ := hrt.cells
                                    subst hAt
                                    rw [Nat.zero_mul, Nat.add_zero] at d0 d1 d2 d3 d4
                                    have hA2 := fun W (o : Only [] v2 W) => (show Calls Tryd.prog 22 #[.agg #[.int .i64 yo, .int .i64 yn, .string ys, .string yu, .slice yA yl.length yc], .int .i64 20] W fun r w' => r = .returned (.bool ((Ex.mk yo yn ys yu yA yc yl).tr.ok)) ∧ Only [] W w' from rr_ok (hLt.keep o))
                                    obtain ⟨p2, hp2'⟩ : ∃ q, (Ex.mk yo yn ys yu yA yc yl).tr.ok = q := ⟨_, rfl⟩
                                    simp only [hp2'] at hA2 hx1
                                    have HEU := Lib.hid (HEU1.out.trans hx1)
                                    have HCC := Lib.hid hA2
                                    clear hA2 hx1 hp2' hLt hrt
                                    go_wp2_with (fail)
                                    refine (HCC.out _ (Only.refl _ _)).mono ?_
                                    rintro r v3 ⟨rfl, o⟩
                                    have HV3 := Lib.hid (HV2.out.trans o (by simp))
                                    clear o a6 al hbt d0 d1 d2 d3 d4 ea eb ec ed
                                    cases p2
                                    · go_wp2_with (fail)
                                      go_ret
                                      exact ⟨by rw [show qE = false from HBAD.out (HEU.out)]; simp only [Bool.and_true, Bool.true_and, Bool.and_false, Bool.false_and] <;> rfl, HOWE.out.trans HV3.out (by simp)⟩
                                    · go_wp2_with (fail)
                                      go_roundw
                                      case rel => exact ⟨kE + 1, _, by go_num, rfl, by omega, Lib.hid (by rw [HTK.out, HP.out, HEU.out]; rfl), Lib.hid (HOr.out.trans HV3.out (by simp))⟩
                                      case measure => simp [intOf] <;> omega
                                  · have ec : (((uil.length : Nat) : Int) == 1) = false := by simp; omega
                                    have ed : (uil.length == 1) = false := by simp; omega
                                    have HEU := Lib.hid (HEU1.out.trans (show exsOk uil = true from by rw [show uil = [] from List.length_eq_zero_iff.1 (by omega)]; rfl))
                                    clear e e1
                                    go_wp2_with (fail)
                                    go_roundw
                                    case rel => exact ⟨kE + 1, _, by go_num, rfl, by omega, Lib.hid (by rw [HTK.out, HP.out, HEU.out]; rfl), Lib.hid (HOr.out.trans HV2.out (by simp))⟩
                                    case measure => simp [intOf] <;> omega
                                · have ea : decide (1 < uil.length) = true := decide_eq_true (by omega)
                                  have eb : decide ((1 : Int) < (uil.length : Int)) = true := decide_eq_true (by omega)
                                  have HEU := Lib.hid (HEU0.out.trans (show _ = false from by simp only [decide_eq_false e, Bool.and_false, Bool.false_and]))
                                  clear e
                                  go_wp2_with (fail)
                                  go_ret
                                  exact ⟨by rw [show qE = false from HBAD.out (HEU.out)]; simp only [Bool.and_true, Bool.true_and, Bool.and_false, Bool.false_and] <;> rfl, HOWE.out.trans HV2.out (by simp)⟩
                          · obtain rfl : kE = xemitsl.length := by omega
                            have iz : ¬ (xemitsl.length : Int) < (xemitsl.length : Int) := by omega
                            have hq : qE = true := by rw [← HQE.out]; have h := HP.out; rw [List.take_length] at h; exact h
                            subst hq
                            clear bx6 bxl
                            have HX13 := HXqE
                            have HO13 := HOWE
                            clear HP HOr hlA
                            obtain ⟨bx0, bx1, bx2, bx3, bx4, bx5, bx6, bx7, bx8, bx9, bx10, bx11, bx12, bx13, bxl⟩ := HX13.out.facts14
                            clear bx0 bx2 bx3 bx5 bx7 bx8 bx9 bx10 bx11 bx12 bx13
                            go_wp2_with (fail)
                            refine (K3.out _ HO13.out).mono ?_
                            rintro r w14 ⟨rfl, o14⟩
                            have HO14 := Lib.hid (HO13.out.trans o14 (by simp))
                            have HX14 := Lib.hid (o14.blk HX13.out (by simp))
                            clear o14
                            clear bx4 bx1 bxl
                            cases q3
                            · go_wp2_with (fail)
                              go_ret
                              exact ⟨by simp only [E3.out, E4.out, E5.out, E6.out, E7.out, E8.out, E9.out, E10x.out, Bool.and_true, Bool.and_false, Bool.false_and, Bool.or_true] <;> rfl, HO14.out⟩
                            · obtain ⟨bx0, bx1, bx2, bx3, bx4, bx5, bx6, bx7, bx8, bx9, bx10, bx11, bx12, bx13, bxl⟩ := HX14.out.facts14
                              clear bx0 bx2 bx3 bx4 bx5 bx6 bx8 bx9 bx10 bx11 bx12 bx13
                              go_wp2_with (fail)
                              refine (K4.out _ HO14.out).mono ?_
                              rintro r w15 ⟨rfl, o15⟩
                              have HO15 := Lib.hid (HO14.out.trans o15 (by simp))
                              have HX15 := Lib.hid (o15.blk HX14.out (by simp))
                              clear o15
                              clear bx7 bx1 bxl
                              cases q4
                              · go_wp2_with (fail)
                                go_ret
                                exact ⟨by simp only [E3.out, E4.out, E5.out, E6.out, E7.out, E8.out, E9.out, E10x.out, Bool.and_true, Bool.and_false, Bool.false_and, Bool.or_true] <;> rfl, HO15.out⟩
                              · obtain ⟨bx0, bx1, bx2, bx3, bx4, bx5, bx6, bx7, bx8, bx9, bx10, bx11, bx12, bx13, bxl⟩ := HX15.out.facts14
                                clear bx0 bx2 bx3 bx4 bx5 bx6 bx7 bx9 bx10 bx11 bx12 bx13
                                go_wp2_with (fail)
                                refine (K5.out _ HO15.out).mono ?_
                                rintro r w16 ⟨rfl, o16⟩
                                have HO16 := Lib.hid (HO15.out.trans o16 (by simp))
                                have HX16 := Lib.hid (o16.blk HX15.out (by simp))
                                clear o16
                                clear bx8 bx1 bxl
                                cases q5
                                · go_wp2_with (fail)
                                  go_ret
                                  exact ⟨by simp only [E3.out, E4.out, E5.out, E6.out, E7.out, E8.out, E9.out, E10x.out, Bool.and_true, Bool.and_false, Bool.false_and, Bool.or_true] <;> rfl, HO16.out⟩
                                · obtain ⟨bx0, bx1, bx2, bx3, bx4, bx5, bx6, bx7, bx8, bx9, bx10, bx11, bx12, bx13, bxl⟩ := HX16.out.facts14
                                  clear bx0 bx2 bx3 bx4 bx5 bx6 bx7 bx8 bx9 bx11 bx12 bx13
                                  go_wp2_with (fail)
                                  refine (K6.out _ HO16.out).mono ?_
                                  rintro r w17 ⟨rfl, o17⟩
                                  have HO17 := Lib.hid (HO16.out.trans o17 (by simp))
                                  have HX17 := Lib.hid (o17.blk HX16.out (by simp))
                                  clear o17
                                  clear bx10 bx1 bxl
                                  cases q6
                                  · go_wp2_with (fail)
                                    go_ret
                                    exact ⟨by simp only [E3.out, E4.out, E5.out, E6.out, E7.out, E8.out, E9.out, E10x.out, Bool.and_true, Bool.and_false, Bool.false_and, Bool.or_true] <;> rfl, HO17.out⟩
                                  · obtain ⟨bx0, bx1, bx2, bx3, bx4, bx5, bx6, bx7, bx8, bx9, bx10, bx11, bx12, bx13, bxl⟩ := HX17.out.facts14
                                    clear bx0 bx2 bx3 bx4 bx6 bx7 bx8 bx9 bx10 bx11 bx12 bx13
                                    have e1 : xtal.length = 1 := of_decide_eq_true (HZ6.out.trans E6.out)
                                    have hp1 : (0 : Int) < (xtal.length : Int) := by omega
                                    have hp2 : 0 < xtal.length := by omega
                                    have hli := HTAR.out.len
                                    obtain ⟨t, ht⟩ : ∃ t, xtal[0]? = some t := ⟨_, List.getElem?_eq_getElem hp2⟩
                                    have hx1 := exsOk_one e1 ht
                                    have hLt := (HTAR.out.sub t (List.mem_of_getElem? ht)).keep HO17.out
                                    have hrt := (HTAR.out.row 0 _ ht).only HO17.out (by simp)
                                    clear e1 ht
                                    obtain ⟨yo, yn, ys, yu, yA, yc, yl⟩ := t
                                    obtain ⟨bt, ot, hAt, hbt, d0, d1, d2, d3, d4⟩ := hrt.cells
                                    subst hAt
                                    rw [Nat.zero_mul, Nat.add_zero] at d0 d1 d2 d3 d4
                                    have hA2 := fun W (o : Only [] w17 W) => (show Calls Tryd.prog 22 #[.agg #[.int .i64 yo, .int .i64 yn, .string ys, .string yu, .slice yA yl.length yc], .int .i64 20] W fun r w' => r = .returned (.bool ((Ex.mk yo yn ys yu yA yc yl).tr.ok)) ∧ Only [] W w' from rr_ok (hLt.keep o))
                                    obtain ⟨p2, hp2'⟩ : ∃ q, (Ex.mk yo yn ys yu yA yc yl).tr.ok = q := ⟨_, rfl⟩
                                    simp only [hp2'] at hA2 hx1
                                    have HTX := Lib.hid (HQT.out.symm.trans hx1)
                                    have HCC := Lib.hid hA2
                                    clear hA2 hx1 hp2' hLt hrt
                                    go_wp2_with (fail)
                                    refine (HCC.out _ (Only.refl _ _)).mono ?_
                                    rintro r v3 ⟨rfl, o⟩
                                    have HV3 := Lib.hid (HO17.out.trans o (by simp))
                                    clear o bx5 bx1 bxl hbt d0 d1 d2 d3 d4
                                    go_wp2_with (fail)
                                    go_ret
                                    exact ⟨by simp only [E3.out, E4.out, E5.out, E6.out, E7.out, E8.out, E9.out, E10x.out, HTX.out, Bool.and_true, Bool.true_and, Bool.or_true] <;> rfl, HV3.out⟩
                      · have e10xa : decide (xcon < 2) = true := by first | exact decide_eq_true (by omega) | (simp [e10x]; done) | (simp; omega)
                        have E10x := Lib.hid (HZ10x.out.symm.trans (decide_eq_false (by omega)))
                        clear e10x
                        by_cases e10y : xownl.length = 0
                        · have e10ya : decide (0 < xownl.length) = false := by first | exact decide_eq_false (by omega) | (simp [e10y]; done) | (simp; omega)
                          have e10yb : decide ((0 : Int) < (xownl.length : Int)) = false := by first | exact decide_eq_false (by omega) | (simp [e10y]; done) | (simp; omega)
                          have E10y := Lib.hid (HZ10y.out.symm.trans (decide_eq_true (by omega)))
                          clear e10y
                          go_wp2_with (fail)
                          clear bx11 bx12 bx13 bx5 bx6 bx9 bx10 bx1 bxl
                          go_loopw [3, 4] (fun i j wr => ∃ (k : Nat) (j9 : Value), i = .int .i64 k ∧ j = j9 ∧ k ≤ xemitsl.length ∧ Hid ((xemitsl.take k).all Em.ok = true) ∧ Hid (Only [] w3 wr)) (fun i _ _ => xemitsl.length - (intOf i).toNat)
                          case atStart => exact ⟨0, _, rfl, rfl, Nat.zero_le _, Lib.hid (by simp), Lib.hid (Only.refl _ _)⟩
                          case round =>
                            obtain ⟨kE, j9, rfl, rfl, hk, HP, HOr⟩ := hrel
                            obtain ⟨wqE, hwq⟩ : ∃ wq : World, wq = wr := ⟨_, rfl⟩
                            subst hwq
                            have HXqE := Lib.hid (HOr.out.blk HX3.out (by simp))
                            have HOWE := Lib.hid (HO3.out.trans HOr.out (by simp))
                            have hlA := HAE.out.len
                            obtain ⟨bx0, bx1, bx2, bx3, bx4, bx5, bx6, bx7, bx8, bx9, bx10, bx11, bx12, bx13, bxl⟩ := HXqE.out.facts14
                            clear bx0 bx1 bx2 bx3 bx4 bx5 bx7 bx8 bx9 bx10 bx11 bx12 bx13
                            by_cases hlt : kE < xemitsl.length
                            · obtain ⟨ue, hx⟩ : ∃ e, xemitsl[kE]? = some e := ⟨_, List.getElem?_eq_getElem hlt⟩
                              have hmem : ue ∈ xemitsl := List.mem_of_getElem? hx
                              have hLx := Em.Li.keep _ _ _ (HAE.out.sub ue hmem) HOWE.out
                              have HTK := Lib.hid (show (xemitsl.take (kE + 1)).all Em.ok = ((xemitsl.take kE).all Em.ok && ue.ok) from by rw [List.take_add_one, hx, List.all_append]; simp)
                              have HBAD := Lib.hid (show ue.ok = false → qE = false from fun h => by rw [← HQE.out, List.all_eq_false]; exact ⟨ue, hmem, by rw [h]; decide⟩)
                              have hrx := (HAE.out.row kE _ hx).keep HOWE.out
                              have hki : (0 : Int) ≤ (kE : Int) := by omega
                              have hkx : (kE : Int) < (xemitsl.length : Int) := by omega
                              clear hx hmem
                              obtain ⟨up, ueo, uen, ues, ueu, ueA, uec, uel, uiA, uic, uil⟩ := ue
                              obtain ⟨ba, oa, hAe, hba, c0, c1, c2, c3, c4, c5, c6⟩ := Em.at_cells hrx
                              have HCX := Lib.hid (show ba < wqE.heap.size ∧ wqE.cell? ⟨ba, oa + kE * 7, none⟩ = some (.string up) ∧ wqE.cell? ⟨ba, oa + kE * 7 + 1, none⟩ = some (.int .i64 ueo) ∧ wqE.cell? ⟨ba, oa + kE * 7 + 2, none⟩ = some (.int .i64 uen) ∧ wqE.cell? ⟨ba, oa + kE * 7 + 3, none⟩ = some (.string ues) ∧ wqE.cell? ⟨ba, oa + kE * 7 + 4, none⟩ = some (.string ueu) ∧ wqE.cell? ⟨ba, oa + kE * 7 + 5, none⟩ = some (.slice ueA uel.length uec) ∧ wqE.cell? ⟨ba, oa + kE * 7 + 6, none⟩ = some (.slice uiA uil.length uic) from ⟨hba, c0, c1, c2, c3, c4, c5, c6⟩)
                              subst hAe
                              clear hrx hba c0 c1 c2 c3 c4 c5 c6
                              have HV0 := Lib.hid (show Only [] wqE (wqE.alloc (.cells #[.string up, .int .i64 ueo, .int .i64 uen, .string ues, .string ueu, .slice ueA uel.length uec, .slice uiA uil.length uic] 74)) from (Only.refl [] _).alloc _)
                              have HE0 := Lib.hid (Blk.new wqE 74 #[.string up, .int .i64 ueo, .int .i64 uen, .string ues, .string ueu, .slice ueA uel.length uec, .slice uiA uil.length uic])
                              have HUS := Lib.hid (show RowL wqE uiA uil from hLx.2.2)
                              have hA0 := fun W (_ : Only [] wqE W) => refname_any (w := W) hLx.1
                              have hA1 := fun W (o : Only [] wqE W) => (show Calls Tryd.prog 22 #[.agg #[.int .i64 ueo, .int .i64 uen, .string ues, .string ueu, .slice ueA uel.length uec], .int .i64 20] W fun r w' => r = .returned (.bool ((Ex.mk ueo uen ues ueu ueA uec uel).tr.ok)) ∧ Only [] W w' from rr_ok (hLx.2.1.keep o))
                              have hE : Em.ok (.mk up ueo uen ues ueu ueA uec uel uiA uic uil) = (nmB up && decide (uil.length ≤ 1) && (Ex.mk ueo uen ues ueu ueA uec uel).tr.ok && exsOk uil) := rfl
                              obtain ⟨p0, hp0⟩ : ∃ q, nmB up = q := ⟨_, rfl⟩
                              simp only [hp0] at hA0 hE
                              obtain ⟨p1, hp1⟩ : ∃ q, (Ex.mk ueo uen ues ueu ueA uec uel).tr.ok = q := ⟨_, rfl⟩
                              simp only [hp1] at hA1 hE
                              have HEU0 := Lib.hid hE
                              have HCA := Lib.hid hA0
                              have HCB := Lib.hid hA1
                              clear hA0 hA1 hE hp0 hp1 hLx
                              have hz0 := HCX.out.1
                              have c0 := HCX.out.2.1
                              have c1 := HCX.out.2.2.1
                              have c2 := HCX.out.2.2.2.1
                              have c3 := HCX.out.2.2.2.2.1
                              have c4 := HCX.out.2.2.2.2.2.1
                              have c5 := HCX.out.2.2.2.2.2.2.1
                              have c6 := HCX.out.2.2.2.2.2.2.2
                              go_wp2_with (fail)
                              refine (HCA.out _ HV0.out).mono ?_
                              rintro r v1 ⟨rfl, o⟩
                              have HV1 := Lib.hid (HV0.out.trans o (by simp))
                              have HE1 := Lib.hid (o.blk HE0.out (by simp))
                              clear o c0 c1 c2 c3 c4 c5 c6 hz0 bx6 bxl
                              cases p0
                              · go_wp2_with (fail)
                                go_ret
                                exact ⟨by rw [show qE = false from HBAD.out (HEU0.out.trans (show _ = false from by simp only [Bool.false_and]))]; simp only [Bool.and_true, Bool.true_and, Bool.and_false, Bool.false_and] <;> rfl, HOWE.out.trans HV1.out (by simp)⟩
                              · obtain ⟨a0, a1, a2, a3, a4, a5, a6, al⟩ := HE1.out.facts7
                                clear a0 a6
                                go_wp2_with (fail)
                                refine (HCB.out _ HV1.out).mono ?_
                                rintro r v2 ⟨rfl, o⟩
                                have HV2 := Lib.hid (HV1.out.trans o (by simp))
                                have HE2 := Lib.hid (o.blk HE1.out (by simp))
                                clear o a1 a2 a3 a4 a5 al
                                cases p1
                                · go_wp2_with (fail)
                                  go_ret
                                  exact ⟨by rw [show qE = false from HBAD.out (HEU0.out.trans (show _ = false from by simp only [Bool.and_false, Bool.false_and]))]; simp only [Bool.and_true, Bool.true_and, Bool.and_false, Bool.false_and] <;> rfl, HOWE.out.trans HV2.out (by simp)⟩
                                · obtain ⟨a0, a1, a2, a3, a4, a5, a6, al⟩ := HE2.out.facts7
                                  clear a0 a1 a2 a3 a4 a5
                                  have hli := HUS.out.len
                                  by_cases e : uil.length ≤ 1
                                  · have ea : decide (1 < uil.length) = false := decide_eq_false (by omega)
                                    have eb : decide ((1 : Int) < (uil.length : Int)) = false := decide_eq_false (by omega)
                                    have HEU1 := Lib.hid (HEU0.out.trans (show (true && decide (uil.length ≤ 1) && true && exsOk uil) = exsOk uil from by simp only [decide_eq_true e, Bool.true_and]))
                                    clear HEU0
                                    by_cases e1 : uil.length = 1
                                    · have ec : (((uil.length : Nat) : Int) == 1) = true := by simp; omega
                                      have ed : (uil.length == 1) = true := by simp; omega
                                      have hp1 : (0 : Int) < (uil.length : Int) := by omega
                                      have hp2 : 0 < uil.length := by omega
                                      obtain ⟨t, ht⟩ : ∃ t, uil[0]? = some t := ⟨_, List.getElem?_eq_getElem hp2⟩
                                      have hx1 := exsOk_one e1 ht
                                      have hLt := (HUS.out.sub t (List.mem_of_getElem? ht)).keep HV2.out
                                      have hrt := (HUS.out.row 0 _ ht).only HV2.out (by simp)
                                      clear e e1 ht
                                      obtain ⟨yo, yn, ys, yu, yA, yc, yl⟩ := t
                                      obtain ⟨bt, ot, hAt, hbt, d0, d1, d2, d3, d4⟩ := hrt.cells
                                      subst hAt
                                      rw [Nat.zero_mul, Nat.add_zero] at d0 d1 d2 d3 d4
                                      have hA2 := fun W (o : Only [] v2 W) => (show Calls Tryd.prog 22 #[.agg #[.int .i64 yo, .int .i64 yn, .string ys, .string yu, .slice yA yl.length yc], .int .i64 20] W fun r w' => r = .returned (.bool ((Ex.mk yo yn ys yu yA yc yl).tr.ok)) ∧ Only [] W w' from rr_ok (hLt.keep o))
                                      obtain ⟨p2, hp2'⟩ : ∃ q, (Ex.mk yo yn ys yu yA yc yl).tr.ok = q := ⟨_, rfl⟩
                                      simp only [hp2'] at hA2 hx1
                                      have HEU := Lib.hid (HEU1.out.trans hx1)
                                      have HCC := Lib.hid hA2
                                      clear hA2 hx1 hp2' hLt hrt
                                      go_wp2_with (fail)
                                      refine (HCC.out _ (Only.refl _ _)).mono ?_
                                      rintro r v3 ⟨rfl, o⟩
                                      have HV3 := Lib.hid (HV2.out.trans o (by simp))
                                      clear o a6 al hbt d0 d1 d2 d3 d4 ea eb ec ed
                                      cases p2
                                      · go_wp2_with (fail)
                                        go_ret
                                        exact ⟨by rw [show qE = false from HBAD.out (HEU.out)]; simp only [Bool.and_true, Bool.true_and, Bool.and_false, Bool.false_and] <;> rfl, HOWE.out.trans HV3.out (by simp)⟩
                                      · go_wp2_with (fail)
                                        go_roundw
                                        case rel => exact ⟨kE + 1, _, by go_num, rfl, by omega, Lib.hid (by rw [HTK.out, HP.out, HEU.out]; rfl), Lib.hid (HOr.out.trans HV3.out (by simp))⟩
                                        case measure => simp [intOf] <;> omega
                                    · have ec : (((uil.length : Nat) : Int) == 1) = false := by simp; omega
                                      have ed : (uil.length == 1) = false := by simp; omega
                                      have HEU := Lib.hid (HEU1.out.trans (show exsOk uil = true from by rw [show uil = [] from List.length_eq_zero_iff.1 (by omega)]; rfl))
                                      clear e e1
                                      go_wp2_with (fail)
                                      go_roundw
                                      case rel => exact ⟨kE + 1, _, by go_num, rfl, by omega, Lib.hid (by rw [HTK.out, HP.out, HEU.out]; rfl), Lib.hid (HOr.out.trans HV2.out (by simp))⟩
                                      case measure => simp [intOf] <;> omega
                                  · have ea : decide (1 < uil.length) = true := decide_eq_true (by omega)
                                    have eb : decide ((1 : Int) < (uil.length : Int)) = true := decide_eq_true (by omega)
                                    have HEU := Lib.hid (HEU0.out.trans (show _ = false from by simp only [decide_eq_false e, Bool.and_false, Bool.false_and]))
                                    clear e
                                    go_wp2_with (fail)
                                    go_ret
                                    exact ⟨by rw [show qE = false from HBAD.out (HEU.out)]; simp only [Bool.and_true, Bool.true_and, Bool.and_false, Bool.false_and] <;> rfl, HOWE.out.trans HV2.out (by simp)⟩
                            · obtain rfl : kE = xemitsl.length := by omega
                              have iz : ¬ (xemitsl.length : Int) < (xemitsl.length : Int) := by omega
                              have hq : qE = true := by rw [← HQE.out]; have h := HP.out; rw [List.take_length] at h; exact h
                              subst hq
                              clear bx6 bxl
                              have HX13 := HXqE
                              have HO13 := HOWE
                              clear HP HOr hlA
                              obtain ⟨bx0, bx1, bx2, bx3, bx4, bx5, bx6, bx7, bx8, bx9, bx10, bx11, bx12, bx13, bxl⟩ := HX13.out.facts14
                              clear bx0 bx2 bx3 bx5 bx7 bx8 bx9 bx10 bx11 bx12 bx13
                              go_wp2_with (fail)
                              refine (K3.out _ HO13.out).mono ?_
                              rintro r w14 ⟨rfl, o14⟩
                              have HO14 := Lib.hid (HO13.out.trans o14 (by simp))
                              have HX14 := Lib.hid (o14.blk HX13.out (by simp))
                              clear o14
                              clear bx4 bx1 bxl
                              cases q3
                              · go_wp2_with (fail)
                                go_ret
                                exact ⟨by simp only [E3.out, E4.out, E5.out, E6.out, E7.out, E8.out, E9.out, E10x.out, E10y.out, Bool.and_true, Bool.and_false, Bool.false_and, Bool.or_false] <;> rfl, HO14.out⟩
                              · obtain ⟨bx0, bx1, bx2, bx3, bx4, bx5, bx6, bx7, bx8, bx9, bx10, bx11, bx12, bx13, bxl⟩ := HX14.out.facts14
                                clear bx0 bx2 bx3 bx4 bx5 bx6 bx8 bx9 bx10 bx11 bx12 bx13
                                go_wp2_with (fail)
                                refine (K4.out _ HO14.out).mono ?_
                                rintro r w15 ⟨rfl, o15⟩
                                have HO15 := Lib.hid (HO14.out.trans o15 (by simp))
                                have HX15 := Lib.hid (o15.blk HX14.out (by simp))
                                clear o15
                                clear bx7 bx1 bxl
                                cases q4
                                · go_wp2_with (fail)
                                  go_ret
                                  exact ⟨by simp only [E3.out, E4.out, E5.out, E6.out, E7.out, E8.out, E9.out, E10x.out, E10y.out, Bool.and_true, Bool.and_false, Bool.false_and, Bool.or_false] <;> rfl, HO15.out⟩
                                · obtain ⟨bx0, bx1, bx2, bx3, bx4, bx5, bx6, bx7, bx8, bx9, bx10, bx11, bx12, bx13, bxl⟩ := HX15.out.facts14
                                  clear bx0 bx2 bx3 bx4 bx5 bx6 bx7 bx9 bx10 bx11 bx12 bx13
                                  go_wp2_with (fail)
                                  refine (K5.out _ HO15.out).mono ?_
                                  rintro r w16 ⟨rfl, o16⟩
                                  have HO16 := Lib.hid (HO15.out.trans o16 (by simp))
                                  have HX16 := Lib.hid (o16.blk HX15.out (by simp))
                                  clear o16
                                  clear bx8 bx1 bxl
                                  cases q5
                                  · go_wp2_with (fail)
                                    go_ret
                                    exact ⟨by simp only [E3.out, E4.out, E5.out, E6.out, E7.out, E8.out, E9.out, E10x.out, E10y.out, Bool.and_true, Bool.and_false, Bool.false_and, Bool.or_false] <;> rfl, HO16.out⟩
                                  · obtain ⟨bx0, bx1, bx2, bx3, bx4, bx5, bx6, bx7, bx8, bx9, bx10, bx11, bx12, bx13, bxl⟩ := HX16.out.facts14
                                    clear bx0 bx2 bx3 bx4 bx5 bx6 bx7 bx8 bx9 bx11 bx12 bx13
                                    go_wp2_with (fail)
                                    refine (K6.out _ HO16.out).mono ?_
                                    rintro r w17 ⟨rfl, o17⟩
                                    have HO17 := Lib.hid (HO16.out.trans o17 (by simp))
                                    have HX17 := Lib.hid (o17.blk HX16.out (by simp))
                                    clear o17
                                    clear bx10 bx1 bxl
                                    cases q6
                                    · go_wp2_with (fail)
                                      go_ret
                                      exact ⟨by simp only [E3.out, E4.out, E5.out, E6.out, E7.out, E8.out, E9.out, E10x.out, E10y.out, Bool.and_true, Bool.and_false, Bool.false_and, Bool.or_false] <;> rfl, HO17.out⟩
                                    · obtain ⟨bx0, bx1, bx2, bx3, bx4, bx5, bx6, bx7, bx8, bx9, bx10, bx11, bx12, bx13, bxl⟩ := HX17.out.facts14
                                      clear bx0 bx2 bx3 bx4 bx6 bx7 bx8 bx9 bx10 bx11 bx12 bx13
                                      have e1 : xtal.length = 1 := of_decide_eq_true (HZ6.out.trans E6.out)
                                      have hp1 : (0 : Int) < (xtal.length : Int) := by omega
                                      have hp2 : 0 < xtal.length := by omega
                                      have hli := HTAR.out.len
                                      obtain ⟨t, ht⟩ : ∃ t, xtal[0]? = some t := ⟨_, List.getElem?_eq_getElem hp2⟩
                                      have hx1 := exsOk_one e1 ht
                                      have hLt := (HTAR.out.sub t (List.mem_of_getElem? ht)).keep HO17.out
                                      have hrt := (HTAR.out.row 0 _ ht).only HO17.out (by simp)
                                      clear e1 ht
                                      obtain ⟨yo, yn, ys, yu, yA, yc, yl⟩ := t
                                      obtain ⟨bt, ot, hAt, hbt, d0, d1, d2, d3, d4⟩ := hrt.cells
                                      subst hAt
                                      rw [Nat.zero_mul, Nat.add_zero] at d0 d1 d2 d3 d4
                                      have hA2 := fun W (o : Only [] w17 W) => (show Calls Tryd.prog 22 #[.agg #[.int .i64 yo, .int .i64 yn, .string ys, .string yu, .slice yA yl.length yc], .int .i64 20] W fun r w' => r = .returned (.bool ((Ex.mk yo yn ys yu yA yc yl).tr.ok)) ∧ Only [] W w' from rr_ok (hLt.keep o))
                                      obtain ⟨p2, hp2'⟩ : ∃ q, (Ex.mk yo yn ys yu yA yc yl).tr.ok = q := ⟨_, rfl⟩
                                      simp only [hp2'] at hA2 hx1
                                      have HTX := Lib.hid (HQT.out.symm.trans hx1)
                                      have HCC := Lib.hid hA2
                                      clear hA2 hx1 hp2' hLt hrt
                                      go_wp2_with (fail)
                                      refine (HCC.out _ (Only.refl _ _)).mono ?_
                                      rintro r v3 ⟨rfl, o⟩
                                      have HV3 := Lib.hid (HO17.out.trans o (by simp))
                                      clear o bx5 bx1 bxl hbt d0 d1 d2 d3 d4
                                      go_wp2_with (fail)
                                      go_ret
                                      exact ⟨by simp only [E3.out, E4.out, E5.out, E6.out, E7.out, E8.out, E9.out, E10x.out, E10y.out, HTX.out, Bool.and_true, Bool.true_and, Bool.or_false] <;> rfl, HV3.out⟩
                        · have e10ya : decide (0 < xownl.length) = true := by first | exact decide_eq_true (by omega) | (simp [e10y]; done) | (simp; omega)
                          have e10yb : decide ((0 : Int) < (xownl.length : Int)) = true := by first | exact decide_eq_true (by omega) | (simp [e10y]; done) | (simp; omega)
                          have E10y := Lib.hid (HZ10y.out.symm.trans (decide_eq_false (by omega)))
                          clear e10y
                          go_wp2_with (fail)
                          go_ret
                          exact ⟨by simp only [E3.out, E4.out, E5.out, E6.out, E7.out, E8.out, E9.out, E10x.out, E10y.out, Bool.and_true, Bool.and_false, Bool.false_and, Bool.or_false] <;> rfl, HO3.out⟩
                    · have e9a : decide (2 < xcon) = true := by first | exact decide_eq_true (by omega) | (simp [e9]; done) | (simp; omega)
                      have E9 := Lib.hid (HZ9.out.symm.trans (decide_eq_false (by omega)))
                      go_wp2_with (fail)
                      go_ret
                      exact ⟨by simp only [E3.out, E4.out, E5.out, E6.out, E7.out, E8.out, E9.out, Bool.and_true, Bool.and_false, Bool.false_and] <;> rfl, HO3.out⟩
                  · have e8a : decide (xcon < 0) = true := by first | exact decide_eq_true (by omega) | (simp [e8]; done) | (simp; omega)
                    have E8 := Lib.hid (HZ8.out.symm.trans (decide_eq_false (by omega)))
                    go_wp2_with (fail)
                    go_ret
                    exact ⟨by simp only [E3.out, E4.out, E5.out, E6.out, E7.out, E8.out, Bool.and_true, Bool.and_false, Bool.false_and] <;> rfl, HO3.out⟩
                · have e7a : decide (xemitsl.length ≤ 8) = false := by first | exact decide_eq_false (by omega) | (simp [e7]; done) | (simp; omega)
                  have e7b : decide ((xemitsl.length : Int) ≤ 8) = false := by first | exact decide_eq_false (by omega) | (simp [e7]; done) | (simp; omega)
                  have e7c : decide (8 < xemitsl.length) = true := by first | exact decide_eq_true (by omega) | (simp [e7]; done) | (simp; omega)
                  have e7d : decide ((8 : Int) < (xemitsl.length : Int)) = true := by first | exact decide_eq_true (by omega) | (simp [e7]; done) | (simp; omega)
                  have E7 := Lib.hid (HZ7.out.symm.trans (decide_eq_false (by omega)))
                  clear e7
                  go_wp2_with (fail)
                  go_ret
                  exact ⟨by simp only [E3.out, E4.out, E5.out, E6.out, E7.out, Bool.and_true, Bool.and_false, Bool.false_and] <;> rfl, HO3.out⟩
              · have e6a : ((xtal.length : Int) == 1) = false := by first | exact decide_eq_false (by omega) | (simp [e6]; done) | (simp; omega)
                have e6b : (xtal.length == 1) = false := by first | exact decide_eq_false (by omega) | (simp [e6]; done) | (simp; omega)
                have e6c : ((xtal.length : Int) != 1) = true := by first | exact decide_eq_true (by omega) | (simp; done) | (simp; omega)
                have e6d : (xtal.length != 1) = true := by first | exact decide_eq_true (by omega) | (simp [e6]; done) | (simp; omega)
                have E6 := Lib.hid (HZ6.out.symm.trans (decide_eq_false (by omega)))
                clear e6
                go_wp2_with (fail)
                go_ret
                exact ⟨by simp only [E3.out, E4.out, E5.out, E6.out, Bool.and_true, Bool.and_false, Bool.false_and] <;> rfl, HO3.out⟩
            · have e5a : decide (0 < xrulesl.length) = true := by first | exact decide_eq_true (by omega) | (simp [e5]; done) | (simp; omega)
              have e5b : decide ((0 : Int) < (xrulesl.length : Int)) = true := by first | exact decide_eq_true (by omega) | (simp [e5]; done) | (simp; omega)
              have E5 := Lib.hid (HZ5.out.symm.trans (decide_eq_false (by omega)))
              clear e5
              go_wp2_with (fail)
              go_ret
              exact ⟨by simp only [E3.out, E4.out, E5.out, Bool.and_true, Bool.and_false, Bool.false_and] <;> rfl, HO3.out⟩
          · have e4a : decide (0 < xlinksl.length) = true := by first | exact decide_eq_true (by omega) | (simp [e4]; done) | (simp; omega)
            have e4b : decide ((0 : Int) < (xlinksl.length : Int)) = true := by first | exact decide_eq_true (by omega) | (simp [e4]; done) | (simp; omega)
            have E4 := Lib.hid (HZ4.out.symm.trans (decide_eq_false (by omega)))
            clear e4
            go_wp2_with (fail)
            go_ret
            exact ⟨by simp only [E3.out, E4.out, Bool.and_true, Bool.and_false, Bool.false_and] <;> rfl, HO3.out⟩
        · have e3a : decide (0 < xpartsl.length) = true := by first | exact decide_eq_true (by omega) | (simp [e3]; done) | (simp; omega)
          have e3b : decide ((0 : Int) < (xpartsl.length : Int)) = true := by first | exact decide_eq_true (by omega) | (simp [e3]; done) | (simp; omega)
          have E3 := Lib.hid (HZ3.out.symm.trans (decide_eq_false (by omega)))
          clear e3
          go_wp2_with (fail)
          go_ret
          exact ⟨by simp only [E3.out, Bool.and_true, Bool.and_false, Bool.false_and] <;> rfl, HO3.out⟩
end Go.Proofs.YtfnacnlaphpflaaDoor
