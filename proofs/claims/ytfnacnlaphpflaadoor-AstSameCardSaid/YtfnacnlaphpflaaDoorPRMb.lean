/- The document's SameModel, where no field ahead of the last rows differs. -/
import Derived.Test.YtfnacnlaphpflaaDoorPRM0
import Derived.Test.YtfnacnlaphpflaaDoorPRS
namespace Go.Proofs.YtfnacnlaphpflaaDoor
open Go.RowKit Go.Kx
open Go.Val (Tt)
set_option maxRecDepth 100000
set_option maxHeartbeats 16000000 in
theorem rsameMd_b {xn : ByteArray} {xcp : Bool} {xinsA : Option Addr} {xinsc : Nat} {xinsl : List Po} {xoutsA : Option Addr} {xoutsc : Nat} {xoutsl : List Po} {xvarsA : Option Addr} {xvarsc : Nat} {xvarsl : List Se} {xtaA : Option Addr} {xtac : Nat} {xtal : List Ex} {xemitsA : Option Addr} {xemitsc : Nat} {xemitsl : List Em} {xintA : Option Addr} {xintc : Nat} {xintl : List Se} {xextA : Option Addr} {xextc : Nat} {xextl : List Se} {xcon : Int} {xownA : Option Addr} {xownc : Nat} {xownl : List Se} {xpartsA : Option Addr} {xpartsc : Nat} {xpartsl : List Pa} {xlinksA : Option Addr} {xlinksc : Nat} {xlinksl : List Lk} {xrulesA : Option Addr} {xrulesc : Nat} {xrulesl : List Ru} {yn : ByteArray} {ycp : Bool} {yinsA : Option Addr} {yinsc : Nat} {yinsl : List Po} {youtsA : Option Addr} {youtsc : Nat} {youtsl : List Po} {yvarsA : Option Addr} {yvarsc : Nat} {yvarsl : List Se} {ytaA : Option Addr} {ytac : Nat} {ytal : List Ex} {yemitsA : Option Addr} {yemitsc : Nat} {yemitsl : List Em} {yintA : Option Addr} {yintc : Nat} {yintl : List Se} {yextA : Option Addr} {yextc : Nat} {yextl : List Se} {ycon : Int} {yownA : Option Addr} {yownc : Nat} {yownl : List Se} {ypartsA : Option Addr} {ypartsc : Nat} {ypartsl : List Pa} {ylinksA : Option Addr} {ylinksc : Nat} {ylinksl : List Lk} {yrulesA : Option Addr} {yrulesc : Nat} {yrulesl : List Ru} {w : World} (ha : Md.Li w (.mk xn xcp xinsA xinsc xinsl xoutsA xoutsc xoutsl xvarsA xvarsc xvarsl xtaA xtac xtal xemitsA xemitsc xemitsl xintA xintc xintl xextA xextc xextl xcon xownA xownc xownl xpartsA xpartsc xpartsl xlinksA xlinksc xlinksl xrulesA xrulesc xrulesl)) (hb : Md.Li w (.mk yn ycp yinsA yinsc yinsl youtsA youtsc youtsl yvarsA yvarsc yvarsl ytaA ytac ytal yemitsA yemitsc yemitsl yintA yintc yintl yextA yextc yextl ycon yownA yownc yownl ypartsA ypartsc ypartsl ylinksA ylinksc ylinksl yrulesA yrulesc yrulesl)) (hC : (eqS xn yn && decide (xcp = ycp) && decide (xcon = ycon) && alikeG Po.same xinsl yinsl && alikeG Po.same xoutsl youtsl && alikeG Se.same xvarsl yvarsl && alikeG Se.same xintl yintl && alikeG Se.same xextl yextl && alikeG Se.same xownl yownl && exsB xtal ytal) = true) : Calls Tryd.prog 46 #[.agg #[.string xn, .bool xcp, .slice xinsA xinsl.length xinsc, .slice xoutsA xoutsl.length xoutsc, .slice xvarsA xvarsl.length xvarsc, .slice xtaA xtal.length xtac, .slice xemitsA xemitsl.length xemitsc, .slice xintA xintl.length xintc, .slice xextA xextl.length xextc, .int .i64 xcon, .slice xownA xownl.length xownc, .slice xpartsA xpartsl.length xpartsc, .slice xlinksA xlinksl.length xlinksc, .slice xrulesA xrulesl.length xrulesc], .agg #[.string yn, .bool ycp, .slice yinsA yinsl.length yinsc, .slice youtsA youtsl.length youtsc, .slice yvarsA yvarsl.length yvarsc, .slice ytaA ytal.length ytac, .slice yemitsA yemitsl.length yemitsc, .slice yintA yintl.length yintc, .slice yextA yextl.length yextc, .int .i64 ycon, .slice yownA yownl.length yownc, .slice ypartsA ypartsl.length ypartsc, .slice ylinksA ylinksl.length ylinksc, .slice yrulesA yrulesl.length yrulesc]] w fun r w' => r = .returned (.bool (Md.same (.mk xn xcp xinsA xinsc xinsl xoutsA xoutsc xoutsl xvarsA xvarsc xvarsl xtaA xtac xtal xemitsA xemitsc xemitsl xintA xintc xintl xextA xextc xextl xcon xownA xownc xownl xpartsA xpartsc xpartsl xlinksA xlinksc xlinksl xrulesA xrulesc xrulesl) (.mk yn ycp yinsA yinsc yinsl youtsA youtsc youtsl yvarsA yvarsc yvarsl ytaA ytac ytal yemitsA yemitsc yemitsl yintA yintc yintl yextA yextc yextl ycon yownA yownc yownl ypartsA ypartsc ypartsl ylinksA ylinksc ylinksl yrulesA yrulesc yrulesl))) ∧ Only [] w w' := by
  have K0 := Lib.hid (fun W (o : Only [] w W) => (show Calls Tryd.prog 69 #[.slice xinsA xinsl.length xinsc, .slice yinsA yinsl.length yinsc] W fun r w' => r = .returned (.bool (alikeG Po.same xinsl yinsl)) ∧ Only [] W w' from rsames_Po (ca := xinsc) (cb := yinsc) (ha.2.2.1.keep Po.Li.keep o) (hb.2.2.1.keep Po.Li.keep o)))
  have K1 := Lib.hid (fun W (o : Only [] w W) => (show Calls Tryd.prog 69 #[.slice xoutsA xoutsl.length xoutsc, .slice youtsA youtsl.length youtsc] W fun r w' => r = .returned (.bool (alikeG Po.same xoutsl youtsl)) ∧ Only [] W w' from rsames_Po (ca := xoutsc) (cb := youtsc) (ha.2.2.2.1.keep Po.Li.keep o) (hb.2.2.2.1.keep Po.Li.keep o)))
  have K2 := Lib.hid (fun W (o : Only [] w W) => (show Calls Tryd.prog 70 #[.slice xvarsA xvarsl.length xvarsc, .slice yvarsA yvarsl.length yvarsc] W fun r w' => r = .returned (.bool (alikeG Se.same xvarsl yvarsl)) ∧ Only [] W w' from rsames_Se (ca := xvarsc) (cb := yvarsc) (ha.2.2.2.2.1.keep Se.Li.keep o) (hb.2.2.2.2.1.keep Se.Li.keep o)))
  have K3 := Lib.hid (fun W (o : Only [] w W) => (show Calls Tryd.prog 70 #[.slice xintA xintl.length xintc, .slice yintA yintl.length yintc] W fun r w' => r = .returned (.bool (alikeG Se.same xintl yintl)) ∧ Only [] W w' from rsames_Se (ca := xintc) (cb := yintc) (ha.2.2.2.2.2.2.2.1.keep Se.Li.keep o) (hb.2.2.2.2.2.2.2.1.keep Se.Li.keep o)))
  have K4 := Lib.hid (fun W (o : Only [] w W) => (show Calls Tryd.prog 70 #[.slice xextA xextl.length xextc, .slice yextA yextl.length yextc] W fun r w' => r = .returned (.bool (alikeG Se.same xextl yextl)) ∧ Only [] W w' from rsames_Se (ca := xextc) (cb := yextc) (ha.2.2.2.2.2.2.2.2.1.keep Se.Li.keep o) (hb.2.2.2.2.2.2.2.2.1.keep Se.Li.keep o)))
  have K5 := Lib.hid (fun W (o : Only [] w W) => (show Calls Tryd.prog 70 #[.slice xownA xownl.length xownc, .slice yownA yownl.length yownc] W fun r w' => r = .returned (.bool (alikeG Se.same xownl yownl)) ∧ Only [] W w' from rsames_Se (ca := xownc) (cb := yownc) (ha.2.2.2.2.2.2.2.2.2.2.1.keep Se.Li.keep o) (hb.2.2.2.2.2.2.2.2.2.2.1.keep Se.Li.keep o)))
  have K6 := Lib.hid (fun W (o : Only [] w W) => (show Calls Tryd.prog 71 #[.slice xtaA xtal.length xtac, .slice ytaA ytal.length ytac] W fun r w' => r = .returned (.bool (exsB xtal ytal)) ∧ Only [] W w' from rsames_Ex (ca := xtac) (cb := ytac) (ha.2.2.2.2.2.1.keep o) (hb.2.2.2.2.2.1.keep o)))
  have HAE := Lib.hid (show RowX Em.cs 7 Em.Li w xemitsA xemitsl from ha.2.2.2.2.2.2.1)
  have HBE := Lib.hid (show RowX Em.cs 7 Em.Li w yemitsA yemitsl from hb.2.2.2.2.2.2.1)
  have hlAE := HAE.out.len
  have hlBE := HBE.out.len
  have HAP := Lib.hid (show RowX Pa.cs 2 Pa.Li w xpartsA xpartsl from ha.2.2.2.2.2.2.2.2.2.2.2.1)
  have HBP := Lib.hid (show RowX Pa.cs 2 Pa.Li w ypartsA ypartsl from hb.2.2.2.2.2.2.2.2.2.2.2.1)
  have hlAP := HAP.out.len
  have hlBP := HBP.out.len
  have HAL := Lib.hid (show RowX Lk.cs 4 Lk.Li w xlinksA xlinksl from ha.2.2.2.2.2.2.2.2.2.2.2.2.1)
  have HBL := Lib.hid (show RowX Lk.cs 4 Lk.Li w ylinksA ylinksl from hb.2.2.2.2.2.2.2.2.2.2.2.2.1)
  have hlAL := HAL.out.len
  have hlBL := HBL.out.len
  have HAR := Lib.hid (show RowX Ru.cs 6 Ru.Li w xrulesA xrulesl from ha.2.2.2.2.2.2.2.2.2.2.2.2.2)
  have HBR := Lib.hid (show RowX Ru.cs 6 Ru.Li w yrulesA yrulesl from hb.2.2.2.2.2.2.2.2.2.2.2.2.2)
  have hlAR := HAR.out.len
  have hlBR := HBR.out.len
  have HE0 : Md.same (.mk xn xcp xinsA xinsc xinsl xoutsA xoutsc xoutsl xvarsA xvarsc xvarsl xtaA xtac xtal xemitsA xemitsc xemitsl xintA xintc xintl xextA xextc xextl xcon xownA xownc xownl xpartsA xpartsc xpartsl xlinksA xlinksc xlinksl xrulesA xrulesc xrulesl) (.mk yn ycp yinsA yinsc yinsl youtsA youtsc youtsl yvarsA yvarsc yvarsl ytaA ytac ytal yemitsA yemitsc yemitsl yintA yintc yintl yextA yextc yextl ycon yownA yownc yownl ypartsA ypartsc ypartsl ylinksA ylinksc ylinksl yrulesA yrulesc yrulesl) = (eqS xn yn && decide (xcp = ycp) && decide (xcon = ycon) && alikeG Po.same xinsl yinsl && alikeG Po.same xoutsl youtsl && alikeG Se.same xvarsl yvarsl && exsB xtal ytal && alikeG Em.same xemitsl yemitsl && alikeG Se.same xintl yintl && alikeG Se.same xextl yextl && alikeG Se.same xownl yownl && alikeG Pa.same xpartsl ypartsl && alikeG Lk.same xlinksl ylinksl && alikeG Ru.same xrulesl yrulesl) := rfl
  have HE := Lib.hid (show Md.same (.mk xn xcp xinsA xinsc xinsl xoutsA xoutsc xoutsl xvarsA xvarsc xvarsl xtaA xtac xtal xemitsA xemitsc xemitsl xintA xintc xintl xextA xextc xextl xcon xownA xownc xownl xpartsA xpartsc xpartsl xlinksA xlinksc xlinksl xrulesA xrulesc xrulesl) (.mk yn ycp yinsA yinsc yinsl youtsA youtsc youtsl yvarsA yvarsc yvarsl ytaA ytac ytal yemitsA yemitsc yemitsl yintA yintc yintl yextA yextc yextl ycon yownA yownc yownl ypartsA ypartsc ypartsl ylinksA ylinksc ylinksl yrulesA yrulesc yrulesl) = (eqS xn yn && decide (xcp = ycp) && decide (xcon = ycon) && alikeG Po.same xinsl yinsl && alikeG Po.same xoutsl youtsl && alikeG Se.same xvarsl yvarsl && alikeG Se.same xintl yintl && alikeG Se.same xextl yextl && alikeG Se.same xownl yownl && exsB xtal ytal && alikeG Em.same xemitsl yemitsl && alikeG Pa.same xpartsl ypartsl && alikeG Lk.same xlinksl ylinksl && alikeG Ru.same xrulesl yrulesl) from HE0.trans (by ac_rfl))
  clear HE0
  have HC := Lib.hid hC
  clear hC
  obtain ⟨q0, hq0⟩ : ∃ q, alikeG Po.same xinsl yinsl = q := ⟨_, rfl⟩
  rw [hq0] at HE K0 HC
  clear hq0
  obtain ⟨q1, hq1⟩ : ∃ q, alikeG Po.same xoutsl youtsl = q := ⟨_, rfl⟩
  rw [hq1] at HE K1 HC
  clear hq1
  obtain ⟨q2, hq2⟩ : ∃ q, alikeG Se.same xvarsl yvarsl = q := ⟨_, rfl⟩
  rw [hq2] at HE K2 HC
  clear hq2
  obtain ⟨q3, hq3⟩ : ∃ q, alikeG Se.same xintl yintl = q := ⟨_, rfl⟩
  rw [hq3] at HE K3 HC
  clear hq3
  obtain ⟨q4, hq4⟩ : ∃ q, alikeG Se.same xextl yextl = q := ⟨_, rfl⟩
  rw [hq4] at HE K4 HC
  clear hq4
  obtain ⟨q5, hq5⟩ : ∃ q, alikeG Se.same xownl yownl = q := ⟨_, rfl⟩
  rw [hq5] at HE K5 HC
  clear hq5
  obtain ⟨q6, hq6⟩ : ∃ q, exsB xtal ytal = q := ⟨_, rfl⟩
  rw [hq6] at HE K6 HC
  clear hq6
  obtain ⟨qE, hq⟩ : ∃ q, alikeG Em.same xemitsl yemitsl = q := ⟨_, rfl⟩
  rw [hq] at HE
  have HQE := Lib.hid hq
  clear hq
  obtain ⟨qP, hq⟩ : ∃ q, alikeG Pa.same xpartsl ypartsl = q := ⟨_, rfl⟩
  rw [hq] at HE
  have HQP := Lib.hid hq
  clear hq
  obtain ⟨qL, hq⟩ : ∃ q, alikeG Lk.same xlinksl ylinksl = q := ⟨_, rfl⟩
  rw [hq] at HE
  have HQL := Lib.hid hq
  clear hq
  obtain ⟨qR, hq⟩ : ∃ q, alikeG Ru.same xrulesl yrulesl = q := ⟨_, rfl⟩
  rw [hq] at HE
  have HQR := Lib.hid hq
  clear hq
  clear ha hb
  show Calls Tryd.prog 46 #[.agg #[.string xn, .bool xcp, .slice xinsA xinsl.length xinsc, .slice xoutsA xoutsl.length xoutsc, .slice xvarsA xvarsl.length xvarsc, .slice xtaA xtal.length xtac, .slice xemitsA xemitsl.length xemitsc, .slice xintA xintl.length xintc, .slice xextA xextl.length xextc, .int .i64 xcon, .slice xownA xownl.length xownc, .slice xpartsA xpartsl.length xpartsc, .slice xlinksA xlinksl.length xlinksc, .slice xrulesA xrulesl.length xrulesc], .agg #[.string yn, .bool ycp, .slice yinsA yinsl.length yinsc, .slice youtsA youtsl.length youtsc, .slice yvarsA yvarsl.length yvarsc, .slice ytaA ytal.length ytac, .slice yemitsA yemitsl.length yemitsc, .slice yintA yintl.length yintc, .slice yextA yextl.length yextc, .int .i64 ycon, .slice yownA yownl.length yownc, .slice ypartsA ypartsl.length ypartsc, .slice ylinksA ylinksl.length ylinksc, .slice yrulesA yrulesl.length yrulesc]] w fun r w' => r = .returned (.bool (Md.same (.mk xn xcp xinsA xinsc xinsl xoutsA xoutsc xoutsl xvarsA xvarsc xvarsl xtaA xtac xtal xemitsA xemitsc xemitsl xintA xintc xintl xextA xextc xextl xcon xownA xownc xownl xpartsA xpartsc xpartsl xlinksA xlinksc xlinksl xrulesA xrulesc xrulesl) (.mk yn ycp yinsA yinsc yinsl youtsA youtsc youtsl yvarsA yvarsc yvarsl ytaA ytac ytal yemitsA yemitsc yemitsl yintA yintc yintl yextA yextc yextl ycon yownA yownc yownl ypartsA ypartsc ypartsl ylinksA ylinksc ylinksl yrulesA yrulesc yrulesl))) ∧ Only [] w w'
  rw [HE.out]
  clear HE
  have h0 := Blk.new w 70 #[.string xn, .bool xcp, .slice xinsA xinsl.length xinsc, .slice xoutsA xoutsl.length xoutsc, .slice xvarsA xvarsl.length xvarsc, .slice xtaA xtal.length xtac, .slice xemitsA xemitsl.length xemitsc, .slice xintA xintl.length xintc, .slice xextA xextl.length xextc, .int .i64 xcon, .slice xownA xownl.length xownc, .slice xpartsA xpartsl.length xpartsc, .slice xlinksA xlinksl.length xlinksc, .slice xrulesA xrulesl.length xrulesc]
  have h1 := Blk.new (w.alloc (.cells #[.string xn, .bool xcp, .slice xinsA xinsl.length xinsc, .slice xoutsA xoutsl.length xoutsc, .slice xvarsA xvarsl.length xvarsc, .slice xtaA xtal.length xtac, .slice xemitsA xemitsl.length xemitsc, .slice xintA xintl.length xintc, .slice xextA xextl.length xextc, .int .i64 xcon, .slice xownA xownl.length xownc, .slice xpartsA xpartsl.length xpartsc, .slice xlinksA xlinksl.length xlinksc, .slice xrulesA xrulesl.length xrulesc] 70)) 70 #[.string yn, .bool ycp, .slice yinsA yinsl.length yinsc, .slice youtsA youtsl.length youtsc, .slice yvarsA yvarsl.length yvarsc, .slice ytaA ytal.length ytac, .slice yemitsA yemitsl.length yemitsc, .slice yintA yintl.length yintc, .slice yextA yextl.length yextc, .int .i64 ycon, .slice yownA yownl.length yownc, .slice ypartsA ypartsl.length ypartsc, .slice ylinksA ylinksl.length ylinksc, .slice yrulesA yrulesl.length yrulesc]
  simp only [World.size_alloc] at h1
  have HX0 := Lib.hid (show Blk ((w.alloc (.cells #[.string xn, .bool xcp, .slice xinsA xinsl.length xinsc, .slice xoutsA xoutsl.length xoutsc, .slice xvarsA xvarsl.length xvarsc, .slice xtaA xtal.length xtac, .slice xemitsA xemitsl.length xemitsc, .slice xintA xintl.length xintc, .slice xextA xextl.length xextc, .int .i64 xcon, .slice xownA xownl.length xownc, .slice xpartsA xpartsl.length xpartsc, .slice xlinksA xlinksl.length xlinksc, .slice xrulesA xrulesl.length xrulesc] 70)).alloc (.cells #[.string yn, .bool ycp, .slice yinsA yinsl.length yinsc, .slice youtsA youtsl.length youtsc, .slice yvarsA yvarsl.length yvarsc, .slice ytaA ytal.length ytac, .slice yemitsA yemitsl.length yemitsc, .slice yintA yintl.length yintc, .slice yextA yextl.length yextc, .int .i64 ycon, .slice yownA yownl.length yownc, .slice ypartsA ypartsl.length ypartsc, .slice ylinksA ylinksl.length ylinksc, .slice yrulesA yrulesl.length yrulesc] 70)) w.heap.size 70 #[.string xn, .bool xcp, .slice xinsA xinsl.length xinsc, .slice xoutsA xoutsl.length xoutsc, .slice xvarsA xvarsl.length xvarsc, .slice xtaA xtal.length xtac, .slice xemitsA xemitsl.length xemitsc, .slice xintA xintl.length xintc, .slice xextA xextl.length xextc, .int .i64 xcon, .slice xownA xownl.length xownc, .slice xpartsA xpartsl.length xpartsc, .slice xlinksA xlinksl.length xlinksc, .slice xrulesA xrulesl.length xrulesc] from h0.alloc _)
  have HY0 := Lib.hid h1
  have HO0 := Lib.hid (show Only [] w ((w.alloc (.cells #[.string xn, .bool xcp, .slice xinsA xinsl.length xinsc, .slice xoutsA xoutsl.length xoutsc, .slice xvarsA xvarsl.length xvarsc, .slice xtaA xtal.length xtac, .slice xemitsA xemitsl.length xemitsc, .slice xintA xintl.length xintc, .slice xextA xextl.length xextc, .int .i64 xcon, .slice xownA xownl.length xownc, .slice xpartsA xpartsl.length xpartsc, .slice xlinksA xlinksl.length xlinksc, .slice xrulesA xrulesl.length xrulesc] 70)).alloc (.cells #[.string yn, .bool ycp, .slice yinsA yinsl.length yinsc, .slice youtsA youtsl.length youtsc, .slice yvarsA yvarsl.length yvarsc, .slice ytaA ytal.length ytac, .slice yemitsA yemitsl.length yemitsc, .slice yintA yintl.length yintc, .slice yextA yextl.length yextc, .int .i64 ycon, .slice yownA yownl.length yownc, .slice ypartsA ypartsl.length ypartsc, .slice ylinksA ylinksl.length ylinksc, .slice yrulesA yrulesl.length yrulesc] 70)) from ((Only.refl [] w).alloc _).alloc _)
  clear h0 h1
  obtain ⟨bx0, bx1, bx2, bx3, bx4, bx5, bx6, bx7, bx8, bx9, bx10, bx11, bx12, bx13, bxl⟩ := HX0.out.facts14
  obtain ⟨by0, by1, by2, by3, by4, by5, by6, by7, by8, by9, by10, by11, by12, by13, byl⟩ := HY0.out.facts14
  clear bx3 by3 bx4 by4 bx5 by5 bx6 by6 bx7 by7 bx8 by8 bx10 by10 bx11 by11 bx12 by12 bx13 by13
  go_enter Tryd.func46, Tryd.ntmps46
  by_cases e0 : xn.toList = yn.toList
  · have e0b : (xn.toList == yn.toList) = true := by simp [e0]
    by_cases e1 : xcp = ycp
    · subst e1
      by_cases e2 : xcon = ycon
      · subst e2
        go_wp2_with (fail)
        refine (K0.out _ HO0.out).mono ?_
        rintro r w1 ⟨rfl, o1⟩
        have HO1 := Lib.hid (HO0.out.trans o1 (by simp))
        have HX1 := Lib.hid (o1.blk HX0.out (by simp))
        have HY1 := Lib.hid (o1.blk HY0.out (by simp))
        clear o1
        clear bx0 by0 bx1 by1 bx9 by9 bx2 by2 bxl byl
        cases q0
        · exact absurd HC.out (by simp [eqS, e0])
        · obtain ⟨bx0, bx1, bx2, bx3, bx4, bx5, bx6, bx7, bx8, bx9, bx10, bx11, bx12, bx13, bxl⟩ := HX1.out.facts14
          obtain ⟨by0, by1, by2, by3, by4, by5, by6, by7, by8, by9, by10, by11, by12, by13, byl⟩ := HY1.out.facts14
          clear bx0 by0 bx1 by1 bx2 by2 bx4 by4 bx5 by5 bx6 by6 bx7 by7 bx8 by8 bx9 by9 bx10 by10 bx11 by11 bx12 by12 bx13 by13
          go_wp2_with (fail)
          refine (K1.out _ HO1.out).mono ?_
          rintro r w2 ⟨rfl, o2⟩
          have HO2 := Lib.hid (HO1.out.trans o2 (by simp))
          have HX2 := Lib.hid (o2.blk HX1.out (by simp))
          have HY2 := Lib.hid (o2.blk HY1.out (by simp))
          clear o2
          clear bx3 by3 bxl byl
          cases q1
          · exact absurd HC.out (by simp [eqS, e0])
          · obtain ⟨bx0, bx1, bx2, bx3, bx4, bx5, bx6, bx7, bx8, bx9, bx10, bx11, bx12, bx13, bxl⟩ := HX2.out.facts14
            obtain ⟨by0, by1, by2, by3, by4, by5, by6, by7, by8, by9, by10, by11, by12, by13, byl⟩ := HY2.out.facts14
            clear bx0 by0 bx1 by1 bx2 by2 bx3 by3 bx5 by5 bx6 by6 bx7 by7 bx8 by8 bx9 by9 bx10 by10 bx11 by11 bx12 by12 bx13 by13
            go_wp2_with (fail)
            refine (K2.out _ HO2.out).mono ?_
            rintro r w3 ⟨rfl, o3⟩
            have HO3 := Lib.hid (HO2.out.trans o3 (by simp))
            have HX3 := Lib.hid (o3.blk HX2.out (by simp))
            have HY3 := Lib.hid (o3.blk HY2.out (by simp))
            clear o3
            clear bx4 by4 bxl byl
            cases q2
            · exact absurd HC.out (by simp [eqS, e0])
            · obtain ⟨bx0, bx1, bx2, bx3, bx4, bx5, bx6, bx7, bx8, bx9, bx10, bx11, bx12, bx13, bxl⟩ := HX3.out.facts14
              obtain ⟨by0, by1, by2, by3, by4, by5, by6, by7, by8, by9, by10, by11, by12, by13, byl⟩ := HY3.out.facts14
              clear bx0 by0 bx1 by1 bx2 by2 bx3 by3 bx4 by4 bx5 by5 bx6 by6 bx8 by8 bx9 by9 bx10 by10 bx11 by11 bx12 by12 bx13 by13
              go_wp2_with (fail)
              refine (K3.out _ HO3.out).mono ?_
              rintro r w4 ⟨rfl, o4⟩
              have HO4 := Lib.hid (HO3.out.trans o4 (by simp))
              have HX4 := Lib.hid (o4.blk HX3.out (by simp))
              have HY4 := Lib.hid (o4.blk HY3.out (by simp))
              clear o4
              clear bx7 by7 bxl byl
              cases q3
              · exact absurd HC.out (by simp [eqS, e0])
              · obtain ⟨bx0, bx1, bx2, bx3, bx4, bx5, bx6, bx7, bx8, bx9, bx10, bx11, bx12, bx13, bxl⟩ := HX4.out.facts14
                obtain ⟨by0, by1, by2, by3, by4, by5, by6, by7, by8, by9, by10, by11, by12, by13, byl⟩ := HY4.out.facts14
                clear bx0 by0 bx1 by1 bx2 by2 bx3 by3 bx4 by4 bx5 by5 bx6 by6 bx7 by7 bx9 by9 bx10 by10 bx11 by11 bx12 by12 bx13 by13
                go_wp2_with (fail)
                refine (K4.out _ HO4.out).mono ?_
                rintro r w5 ⟨rfl, o5⟩
                have HO5 := Lib.hid (HO4.out.trans o5 (by simp))
                have HX5 := Lib.hid (o5.blk HX4.out (by simp))
                have HY5 := Lib.hid (o5.blk HY4.out (by simp))
                clear o5
                clear bx8 by8 bxl byl
                cases q4
                · exact absurd HC.out (by simp [eqS, e0])
                · obtain ⟨bx0, bx1, bx2, bx3, bx4, bx5, bx6, bx7, bx8, bx9, bx10, bx11, bx12, bx13, bxl⟩ := HX5.out.facts14
                  obtain ⟨by0, by1, by2, by3, by4, by5, by6, by7, by8, by9, by10, by11, by12, by13, byl⟩ := HY5.out.facts14
                  clear bx0 by0 bx1 by1 bx2 by2 bx3 by3 bx4 by4 bx5 by5 bx6 by6 bx7 by7 bx8 by8 bx9 by9 bx11 by11 bx12 by12 bx13 by13
                  go_wp2_with (fail)
                  refine (K5.out _ HO5.out).mono ?_
                  rintro r w6 ⟨rfl, o6⟩
                  have HO6 := Lib.hid (HO5.out.trans o6 (by simp))
                  have HX6 := Lib.hid (o6.blk HX5.out (by simp))
                  have HY6 := Lib.hid (o6.blk HY5.out (by simp))
                  clear o6
                  clear bx10 by10 bxl byl
                  cases q5
                  · exact absurd HC.out (by simp [eqS, e0])
                  · obtain ⟨bx0, bx1, bx2, bx3, bx4, bx5, bx6, bx7, bx8, bx9, bx10, bx11, bx12, bx13, bxl⟩ := HX6.out.facts14
                    obtain ⟨by0, by1, by2, by3, by4, by5, by6, by7, by8, by9, by10, by11, by12, by13, byl⟩ := HY6.out.facts14
                    clear bx0 by0 bx1 by1 bx2 by2 bx3 by3 bx4 by4 bx6 by6 bx7 by7 bx8 by8 bx9 by9 bx10 by10 bx11 by11 bx12 by12 bx13 by13
                    go_wp2_with (fail)
                    refine (K6.out _ HO6.out).mono ?_
                    rintro r w7 ⟨rfl, o7⟩
                    have HO7 := Lib.hid (HO6.out.trans o7 (by simp))
                    have HX7 := Lib.hid (o7.blk HX6.out (by simp))
                    have HY7 := Lib.hid (o7.blk HY6.out (by simp))
                    clear o7
                    clear bx5 by5 bxl byl
                    cases q6
                    · exact absurd HC.out (by simp [eqS, e0])
                    · obtain ⟨bx0, bx1, bx2, bx3, bx4, bx5, bx6, bx7, bx8, bx9, bx10, bx11, bx12, bx13, bxl⟩ := HX7.out.facts14
                      obtain ⟨by0, by1, by2, by3, by4, by5, by6, by7, by8, by9, by10, by11, by12, by13, byl⟩ := HY7.out.facts14
                      clear bx0 by0 bx1 by1 bx2 by2 bx3 by3 bx4 by4 bx5 by5 bx7 by7 bx8 by8 bx9 by9 bx10 by10
                      by_cases lE : xemitsl.length = yemitsl.length
                      · have lEb : ((xemitsl.length : Int) != (yemitsl.length : Int)) = false := by simp [lE]
                        have HLE := Lib.hid lE
                        clear lE
                        by_cases lP : xpartsl.length = ypartsl.length
                        · have lPb : ((xpartsl.length : Int) != (ypartsl.length : Int)) = false := by simp [lP]
                          have HLP := Lib.hid lP
                          clear lP
                          by_cases lL : xlinksl.length = ylinksl.length
                          · have lLb : ((xlinksl.length : Int) != (ylinksl.length : Int)) = false := by simp [lL]
                            have HLL := Lib.hid lL
                            clear lL
                            by_cases lR : xrulesl.length = yrulesl.length
                            · have lRb : ((xrulesl.length : Int) != (yrulesl.length : Int)) = false := by simp [lR]
                              have HLR := Lib.hid lR
                              clear lR
                              go_wp2_with (fail)
                              clear bx6 by6 bx11 by11 bx12 by12 bx13 by13 bxl byl
                              clear lEb lPb lLb lRb
                              have HOPE := HO7
                              have HXPE := HX7
                              have HYPE := HY7
                              go_loopw [5] (fun i wr => ∃ k : Nat, i = .int .i64 k ∧ k ≤ xemitsl.length ∧ Hid (alikeG Em.same (xemitsl.take k) (yemitsl.take k) = true) ∧ Hid (Only [] w7 wr)) (fun i _ => xemitsl.length - (intOf i).toNat)
                              case atStart => exact ⟨0, rfl, Nat.zero_le _, Lib.hid (by simp [alikeG]), Lib.hid (Only.refl _ _)⟩
                              case round =>
                                obtain ⟨kE, rfl, hk, HP, HOr⟩ := hrel
                                obtain ⟨wqE, hwq⟩ : ∃ wq : World, wq = wr := ⟨_, rfl⟩
                                subst hwq
                                have HXE := Lib.hid (HOr.out.blk HXPE.out (by simp))
                                have HYE := Lib.hid (HOr.out.blk HYPE.out (by simp))
                                have HOWE := Lib.hid (HOPE.out.trans HOr.out (by simp))
                                obtain ⟨bx0, bx1, bx2, bx3, bx4, bx5, bx6, bx7, bx8, bx9, bx10, bx11, bx12, bx13, bxl⟩ := HXE.out.facts14
                                obtain ⟨by0, by1, by2, by3, by4, by5, by6, by7, by8, by9, by10, by11, by12, by13, byl⟩ := HYE.out.facts14
                                clear bx0 by0 bx1 by1 bx2 by2 bx3 by3 bx4 by4 bx5 by5 bx7 by7 bx8 by8 bx9 by9 bx10 by10 bx11 by11 bx12 by12 bx13 by13
                                by_cases hlt : kE < xemitsl.length
                                · obtain ⟨ue, hx⟩ : ∃ e, xemitsl[kE]? = some e := ⟨_, List.getElem?_eq_getElem hlt⟩
                                  obtain ⟨ze, hy⟩ : ∃ e, yemitsl[kE]? = some e := ⟨_, List.getElem?_eq_getElem (by have := HLE.out; omega)⟩
                                  have hLx := Em.Li.keep _ _ _ (HAE.out.sub ue (List.mem_of_getElem? hx)) HOWE.out
                                  have hLy := Em.Li.keep _ _ _ (HBE.out.sub ze (List.mem_of_getElem? hy)) HOWE.out
                                  have HTK := Lib.hid (alikeG_take (p := Em.same) HLE.out hx hy)
                                  have HBAD := Lib.hid (fun h => HQE.out.symm.trans (alikeG_bad (p := Em.same) hx hy h))
                                  have hrx := (HAE.out.row kE _ hx).keep HOWE.out
                                  have hry := (HBE.out.row kE _ hy).keep HOWE.out
                                  have hki : (0 : Int) ≤ (kE : Int) := by omega
                                  have hkx : (kE : Int) < (xemitsl.length : Int) := by omega
                                  have hky : (kE : Int) < (yemitsl.length : Int) := by have := HLE.out; omega
                                  clear hx hy
                                  obtain ⟨up, ueo, uen, ues, ueu, ueA, uec, uel, uiA, uic, uil⟩ := ue
                                  obtain ⟨zp, zeo, zen, zes, zeu, zeA, zec, zel, ziA, zic, zil⟩ := ze
                                  obtain ⟨ba, oa, hAe, hba, c0, c1, c2, c3, c4, c5, c6⟩ := Em.at_cells hrx
                                  obtain ⟨bb, ob, hBe, hbb, d0, d1, d2, d3, d4, d5, d6⟩ := Em.at_cells hry
                                  have HCX := Lib.hid (show ba < wqE.heap.size ∧ wqE.cell? ⟨ba, oa + kE * 7, none⟩ = some (.string up) ∧ wqE.cell? ⟨ba, oa + kE * 7 + 1, none⟩ = some (.int .i64 ueo) ∧ wqE.cell? ⟨ba, oa + kE * 7 + 2, none⟩ = some (.int .i64 uen) ∧ wqE.cell? ⟨ba, oa + kE * 7 + 3, none⟩ = some (.string ues) ∧ wqE.cell? ⟨ba, oa + kE * 7 + 4, none⟩ = some (.string ueu) ∧ wqE.cell? ⟨ba, oa + kE * 7 + 5, none⟩ = some (.slice ueA uel.length uec) ∧ wqE.cell? ⟨ba, oa + kE * 7 + 6, none⟩ = some (.slice uiA uil.length uic) from ⟨hba, c0, c1, c2, c3, c4, c5, c6⟩)
                                  have HCY := Lib.hid (show bb < wqE.heap.size ∧ wqE.cell? ⟨bb, ob + kE * 7, none⟩ = some (.string zp) ∧ wqE.cell? ⟨bb, ob + kE * 7 + 1, none⟩ = some (.int .i64 zeo) ∧ wqE.cell? ⟨bb, ob + kE * 7 + 2, none⟩ = some (.int .i64 zen) ∧ wqE.cell? ⟨bb, ob + kE * 7 + 3, none⟩ = some (.string zes) ∧ wqE.cell? ⟨bb, ob + kE * 7 + 4, none⟩ = some (.string zeu) ∧ wqE.cell? ⟨bb, ob + kE * 7 + 5, none⟩ = some (.slice zeA zel.length zec) ∧ wqE.cell? ⟨bb, ob + kE * 7 + 6, none⟩ = some (.slice ziA zil.length zic) from ⟨hbb, d0, d1, d2, d3, d4, d5, d6⟩)
                                  subst hAe
                                  subst hBe
                                  clear hrx hry hba hbb c0 d0 c1 d1 c2 d2 c3 d3 c4 d4 c5 d5 c6 d6
                                  have hcA := fun W (o : Only [] wqE W) => rsame_any (.mk ueo uen ues ueu ueA uec uel) (.mk zeo zen zes zeu zeA zec zel) W (hLx.2.1.keep o) (hLy.2.1.keep o)
                                  have hcB := fun W (o : Only [] wqE W) => rsames_Ex (ca := uic) (cb := zic) (hLx.2.2.keep o) (hLy.2.2.keep o)
                                  have hE : Em.same (.mk up ueo uen ues ueu ueA uec uel uiA uic uil) (.mk zp zeo zen zes zeu zeA zec zel ziA zic zil) = (eqS up zp && (Ex.mk ueo uen ues ueu ueA uec uel).tr.same (Ex.mk zeo zen zes zeu zeA zec zel).tr && exsB uil zil) := rfl
                                  obtain ⟨pe, hpe⟩ : ∃ pe, (Ex.mk ueo uen ues ueu ueA uec uel).tr.same (Ex.mk zeo zen zes zeu zeA zec zel).tr = pe := ⟨_, rfl⟩
                                  obtain ⟨pi, hpi⟩ : ∃ pi, exsB uil zil = pi := ⟨_, rfl⟩
                                  simp only [hpe] at hcA hE
                                  simp only [hpi] at hcB hE
                                  have HCA := Lib.hid (show ∀ W, Only [] wqE W → Calls Tryd.prog 14 #[.agg #[.int .i64 ueo, .int .i64 uen, .string ues, .string ueu, .slice ueA uel.length uec], .agg #[.int .i64 zeo, .int .i64 zen, .string zes, .string zeu, .slice zeA zel.length zec]] W fun r w' => r = .returned (.bool pe) ∧ Only [] W w' from hcA)
                                  have HCB := Lib.hid (show ∀ W, Only [] wqE W → Calls Tryd.prog 71 #[.slice uiA uil.length uic, .slice ziA zil.length zic] W fun r w' => r = .returned (.bool pi) ∧ Only [] W w' from hcB)
                                  have HPE := Lib.hid hE
                                  clear hcA hcB hE hpe hpi hLx hLy
                                  by_cases en : up.toList = zp.toList
                                  · have HPE2 := Lib.hid (HPE.out.trans (show (eqS up zp && pe && pi) = (pe && pi) from by simp [eqS, en]))
                                    replace HPE := HPE2
                                    clear HPE2
                                    cases pe
                                    · have EN := Lib.hid en
                                      clear en
                                      go_wp2_with (fail)
                                      clear bx6 by6 bxl byl
                                      refine (wpIn_wide (n := 9)).1 ?_
                                      refine wpIn_region_relR 45 (Only []) (fr := ?fra2) (tl := ?tla2) (fun iq v wv => match iq with
                                        | 0 => v = .pointer (some ⟨w.heap.size, 6, none⟩)
                                        | 1 => v = .slice (some ⟨ba, oa, none⟩) xemitsl.length xemitsc
                                        | 2 => v = .int .i64 (kE : Int)
                                        | 3 => v = .pointer (some ⟨ba, oa + kE * 7, none⟩)
                                        | 4 => v = .pointer (some ⟨ba, oa + kE * 7, none⟩)
                                        | 5 => v = .string up
                                        | 6 => v = .pointer (some ⟨w.heap.size + 1, 6, none⟩)
                                        | 7 => v = .slice (some ⟨bb, ob, none⟩) yemitsl.length yemitsc
                                        | 8 => v = .int .i64 (kE : Int)
                                        | 9 => v = .pointer (some ⟨bb, ob + kE * 7, none⟩)
                                        | 10 => v = .pointer (some ⟨bb, ob + kE * 7, none⟩)
                                        | 11 => v = .string zp
                                        | 12 => v = .bool false
                                        | 13 => v = .bool false
                                        | 14 => v = .pointer (some ⟨w.heap.size, 6, none⟩)
                                        | 15 => v = .slice (some ⟨ba, oa, none⟩) xemitsl.length xemitsc
                                        | 16 => v = .int .i64 (kE : Int)
                                        | 17 => v = .pointer (some ⟨ba, oa + kE * 7, none⟩)
                                        | 18 => v = .pointer (some ⟨ba, oa + kE * 7 + 1, none⟩)
                                        | 19 => v = .agg #[.int .i64 ueo, .int .i64 uen, .string ues, .string ueu, .slice ueA uel.length uec]
                                        | 20 => v = .pointer (some ⟨w.heap.size + 1, 6, none⟩)
                                        | 21 => v = .slice (some ⟨bb, ob, none⟩) yemitsl.length yemitsc
                                        | 22 => v = .int .i64 (kE : Int)
                                        | 23 => v = .pointer (some ⟨bb, ob + kE * 7, none⟩)
                                        | 24 => v = .pointer (some ⟨bb, ob + kE * 7 + 1, none⟩)
                                        | 25 => v = .agg #[.int .i64 zeo, .int .i64 zen, .string zes, .string zeu, .slice zeA zel.length zec]
                                        | 26 => v = .bool false
                                        | 27 => v = .bool true
                                        | 28 => v = .bool true
                                        | 29 => v = .bool true
                                        | 44 => v = .bool true
                                        | _ => True) (.inl rfl) (by kernel_rfl) (by kernel_rfl) (by kernel_rfl) (by kernel_rfl) (by kernel_rfl) (by kernel_rfl) (by decide) ?htla2 ?hfra2 (Only.refl _ _) (fun _ _ _ h k => h.trans k (fun _ hx => .inl hx)) ?staba2 ?stepsa2 ?donea2
                                      case htla2 => simp only [List.drop_succ_cons, List.drop_zero]; rfl
                                      case hfra2 => intro vals; simp only [putAll, dstAt, Act.put, List.getElem?_toArray, List.getElem?_cons_zero, List.getElem?_cons_succ, Option.bind_some, List.setIfInBounds_toArray, List.set_cons_zero, List.set_cons_succ]; rfl
                                      case staba2 =>
                                        intro i v wa wb h
                                        try dsimp only
                                        split <;> first | exact id
                                      case stepsa2 =>
                                        refine ⟨?_, ?_, ?_, ?_, ?_, ?_, ?_, ?_, ?_, ?_, ?_, ?_, ?_, ?_, ?_, ?_, ?_, ?_, ?_, ?_, ?_, ?_, ?_, ?_, ?_, ?_, ?_, ?_, ?_, ?_, ?_, ?_, ?_, ?_, ?_, ?_, ?_, ?_, ?_, ?_, ?_, ?_, ?_, ?_, ?_, trivial⟩
                                        · intro vals wr hR hp K hK
                                          dsimp only at hK ⊢
                                          clear hp
                                          unfold RunsOp
                                          go_simp
                                          exact hK.out _ _ ⟨_, rfl, Only.refl _ _, rfl⟩
                                        · intro vals wr hR hp K hK
                                          dsimp only at hK ⊢
                                          obtain ⟨p0, -⟩ := hp
                                          replace p0 := p0 rfl
                                          dsimp only at p0
                                          rw [p0] at hK ⊢
                                          clear p0
                                          unfold RunsOp
                                          obtain ⟨k0, k1, k2, k3, k4, k5, k6, k7, k8, k9, k10, k11, k12, k13, kl⟩ := (hR.blk (Blk.drew HXE.out) (by simp)).facts14
                                          go_simp
                                          exact hK.out _ _ ⟨_, rfl, Only.refl _ _, rfl⟩
                                        · intro vals wr hR hp K hK
                                          dsimp only at hK ⊢
                                          clear hp
                                          unfold RunsOp
                                          go_simp
                                          exact hK.out _ _ ⟨_, rfl, Only.refl _ _, rfl⟩
                                        · intro vals wr hR hp K hK
                                          dsimp only at hK ⊢
                                          obtain ⟨p1, p2, -⟩ := hp
                                          replace p1 := p1 rfl
                                          replace p2 := p2 rfl
                                          dsimp only at p1 p2
                                          rw [p1, p2] at hK ⊢
                                          clear p1 p2
                                          unfold RunsOp
                                          go_simp
                                          exact hK.out _ _ ⟨_, rfl, Only.refl _ _, rfl⟩
                                        · intro vals wr hR hp K hK
                                          dsimp only at hK ⊢
                                          obtain ⟨p3, -⟩ := hp
                                          replace p3 := p3 rfl
                                          dsimp only at p3
                                          rw [p3] at hK ⊢
                                          clear p3
                                          unfold RunsOp
                                          go_simp
                                          exact hK.out _ _ ⟨_, rfl, Only.refl _ _, rfl⟩
                                        · intro vals wr hR hp K hK
                                          dsimp only at hK ⊢
                                          obtain ⟨p4, -⟩ := hp
                                          replace p4 := p4 rfl
                                          dsimp only at p4
                                          rw [p4] at hK ⊢
                                          clear p4
                                          unfold RunsOp
                                          have q0 := (hR.cell (p := ⟨ba, oa + kE * 7, none⟩) HCX.out.1 (by simp)).trans HCX.out.2.1
                                          go_simp
                                          exact hK.out _ _ ⟨_, rfl, Only.refl _ _, rfl⟩
                                        · intro vals wr hR hp K hK
                                          dsimp only at hK ⊢
                                          clear hp
                                          unfold RunsOp
                                          go_simp
                                          exact hK.out _ _ ⟨_, rfl, Only.refl _ _, rfl⟩
                                        · intro vals wr hR hp K hK
                                          dsimp only at hK ⊢
                                          obtain ⟨p6, -⟩ := hp
                                          replace p6 := p6 rfl
                                          dsimp only at p6
                                          rw [p6] at hK ⊢
                                          clear p6
                                          unfold RunsOp
                                          obtain ⟨k0, k1, k2, k3, k4, k5, k6, k7, k8, k9, k10, k11, k12, k13, kl⟩ := (hR.blk (Blk.drew HYE.out) (by simp)).facts14
                                          go_simp
                                          exact hK.out _ _ ⟨_, rfl, Only.refl _ _, rfl⟩
                                        · intro vals wr hR hp K hK
                                          dsimp only at hK ⊢
                                          clear hp
                                          unfold RunsOp
                                          go_simp
                                          exact hK.out _ _ ⟨_, rfl, Only.refl _ _, rfl⟩
                                        · intro vals wr hR hp K hK
                                          dsimp only at hK ⊢
                                          obtain ⟨p7, p8, -⟩ := hp
                                          replace p7 := p7 rfl
                                          replace p8 := p8 rfl
                                          dsimp only at p7 p8
                                          rw [p7, p8] at hK ⊢
                                          clear p7 p8
                                          unfold RunsOp
                                          go_simp
                                          exact hK.out _ _ ⟨_, rfl, Only.refl _ _, rfl⟩
                                        · intro vals wr hR hp K hK
                                          dsimp only at hK ⊢
                                          obtain ⟨p9, -⟩ := hp
                                          replace p9 := p9 rfl
                                          dsimp only at p9
                                          rw [p9] at hK ⊢
                                          clear p9
                                          unfold RunsOp
                                          go_simp
                                          exact hK.out _ _ ⟨_, rfl, Only.refl _ _, rfl⟩
                                        · intro vals wr hR hp K hK
                                          dsimp only at hK ⊢
                                          obtain ⟨p10, -⟩ := hp
                                          replace p10 := p10 rfl
                                          dsimp only at p10
                                          rw [p10] at hK ⊢
                                          clear p10
                                          unfold RunsOp
                                          have q0 := (hR.cell (p := ⟨bb, ob + kE * 7, none⟩) HCY.out.1 (by simp)).trans HCY.out.2.1
                                          go_simp
                                          exact hK.out _ _ ⟨_, rfl, Only.refl _ _, rfl⟩
                                        · intro vals wr hR hp K hK
                                          dsimp only at hK ⊢
                                          obtain ⟨p5, p11, -⟩ := hp
                                          replace p5 := p5 rfl
                                          replace p11 := p11 rfl
                                          dsimp only at p5 p11
                                          rw [p5, p11] at hK ⊢
                                          clear p5 p11
                                          unfold RunsOp
                                          have en := EN.out
                                          go_simp
                                          exact hK.out _ _ ⟨_, rfl, Only.refl _ _, rfl⟩
                                        · intro vals wr hR hp K hK
                                          dsimp only at hK ⊢
                                          obtain ⟨p12, -⟩ := hp
                                          replace p12 := p12 rfl
                                          dsimp only at p12
                                          rw [p12] at hK ⊢
                                          clear p12
                                          unfold RunsOp
                                          go_simp
                                          exact hK.out _ _ ⟨_, rfl, Only.refl _ _, rfl⟩
                                        · intro vals wr hR hp K hK
                                          dsimp only at hK ⊢
                                          obtain ⟨p13, -⟩ := hp
                                          replace p13 := p13 rfl
                                          dsimp only at p13
                                          rw [p13] at hK ⊢
                                          clear p13
                                          unfold RunsOp
                                          go_simp
                                          exact hK.out _ _ ⟨_, rfl, Only.refl _ _, rfl⟩
                                        · intro vals wr hR hp K hK
                                          dsimp only at hK ⊢
                                          obtain ⟨p14, p13, -⟩ := hp
                                          replace p14 := p14 rfl
                                          replace p13 := p13 rfl
                                          dsimp only at p14 p13
                                          rw [p14, p13] at hK ⊢
                                          clear p14 p13
                                          unfold RunsOp
                                          obtain ⟨k0, k1, k2, k3, k4, k5, k6, k7, k8, k9, k10, k11, k12, k13, kl⟩ := (hR.blk (Blk.drew HXE.out) (by simp)).facts14
                                          go_simp
                                          exact hK.out _ _ ⟨_, rfl, Only.refl _ _, rfl⟩
                                        · intro vals wr hR hp K hK
                                          dsimp only at hK ⊢
                                          obtain ⟨p13, -⟩ := hp
                                          replace p13 := p13 rfl
                                          dsimp only at p13
                                          rw [p13] at hK ⊢
                                          clear p13
                                          unfold RunsOp
                                          go_simp
                                          exact hK.out _ _ ⟨_, rfl, Only.refl _ _, rfl⟩
                                        · intro vals wr hR hp K hK
                                          dsimp only at hK ⊢
                                          obtain ⟨p15, p16, p13, -⟩ := hp
                                          replace p15 := p15 rfl
                                          replace p16 := p16 rfl
                                          replace p13 := p13 rfl
                                          dsimp only at p15 p16 p13
                                          rw [p15, p16, p13] at hK ⊢
                                          clear p15 p16 p13
                                          unfold RunsOp
                                          go_simp
                                          exact hK.out _ _ ⟨_, rfl, Only.refl _ _, rfl⟩
                                        · intro vals wr hR hp K hK
                                          dsimp only at hK ⊢
                                          obtain ⟨p17, p13, -⟩ := hp
                                          replace p17 := p17 rfl
                                          replace p13 := p13 rfl
                                          dsimp only at p17 p13
                                          rw [p17, p13] at hK ⊢
                                          clear p17 p13
                                          unfold RunsOp
                                          go_simp
                                          exact hK.out _ _ ⟨_, rfl, Only.refl _ _, rfl⟩
                                        · intro vals wr hR hp K hK
                                          dsimp only at hK ⊢
                                          obtain ⟨p18, p13, -⟩ := hp
                                          replace p18 := p18 rfl
                                          replace p13 := p13 rfl
                                          dsimp only at p18 p13
                                          rw [p18, p13] at hK ⊢
                                          clear p18 p13
                                          unfold RunsOp
                                          have q1 := (hR.cell (p := ⟨ba, oa + kE * 7 + 1, none⟩) HCX.out.1 (by simp)).trans HCX.out.2.2.1
                                          have q2 := (hR.cell (p := ⟨ba, oa + kE * 7 + 2, none⟩) HCX.out.1 (by simp)).trans HCX.out.2.2.2.1
                                          have q3 := (hR.cell (p := ⟨ba, oa + kE * 7 + 3, none⟩) HCX.out.1 (by simp)).trans HCX.out.2.2.2.2.1
                                          have q4 := (hR.cell (p := ⟨ba, oa + kE * 7 + 4, none⟩) HCX.out.1 (by simp)).trans HCX.out.2.2.2.2.2.1
                                          have q5 := (hR.cell (p := ⟨ba, oa + kE * 7 + 5, none⟩) HCX.out.1 (by simp)).trans HCX.out.2.2.2.2.2.2.1
                                          go_simp
                                          exact hK.out _ _ ⟨_, rfl, Only.refl _ _, rfl⟩
                                        · intro vals wr hR hp K hK
                                          dsimp only at hK ⊢
                                          obtain ⟨p13, -⟩ := hp
                                          replace p13 := p13 rfl
                                          dsimp only at p13
                                          rw [p13] at hK ⊢
                                          clear p13
                                          unfold RunsOp
                                          go_simp
                                          exact hK.out _ _ ⟨_, rfl, Only.refl _ _, rfl⟩
                                        · intro vals wr hR hp K hK
                                          dsimp only at hK ⊢
                                          obtain ⟨p20, p13, -⟩ := hp
                                          replace p20 := p20 rfl
                                          replace p13 := p13 rfl
                                          dsimp only at p20 p13
                                          rw [p20, p13] at hK ⊢
                                          clear p20 p13
                                          unfold RunsOp
                                          obtain ⟨k0, k1, k2, k3, k4, k5, k6, k7, k8, k9, k10, k11, k12, k13, kl⟩ := (hR.blk (Blk.drew HYE.out) (by simp)).facts14
                                          go_simp
                                          exact hK.out _ _ ⟨_, rfl, Only.refl _ _, rfl⟩
                                        · intro vals wr hR hp K hK
                                          dsimp only at hK ⊢
                                          obtain ⟨p13, -⟩ := hp
                                          replace p13 := p13 rfl
                                          dsimp only at p13
                                          rw [p13] at hK ⊢
                                          clear p13
                                          unfold RunsOp
                                          go_simp
                                          exact hK.out _ _ ⟨_, rfl, Only.refl _ _, rfl⟩
                                        · intro vals wr hR hp K hK
                                          dsimp only at hK ⊢
                                          obtain ⟨p21, p22, p13, -⟩ := hp
                                          replace p21 := p21 rfl
                                          replace p22 := p22 rfl
                                          replace p13 := p13 rfl
                                          dsimp only at p21 p22 p13
                                          rw [p21, p22, p13] at hK ⊢
                                          clear p21 p22 p13
                                          unfold RunsOp
                                          go_simp
                                          exact hK.out _ _ ⟨_, rfl, Only.refl _ _, rfl⟩
                                        · intro vals wr hR hp K hK
                                          dsimp only at hK ⊢
                                          obtain ⟨p23, p13, -⟩ := hp
                                          replace p23 := p23 rfl
                                          replace p13 := p13 rfl
                                          dsimp only at p23 p13
                                          rw [p23, p13] at hK ⊢
                                          clear p23 p13
                                          unfold RunsOp
                                          go_simp
                                          exact hK.out _ _ ⟨_, rfl, Only.refl _ _, rfl⟩
                                        · intro vals wr hR hp K hK
                                          dsimp only at hK ⊢
                                          obtain ⟨p24, p13, -⟩ := hp
                                          replace p24 := p24 rfl
                                          replace p13 := p13 rfl
                                          dsimp only at p24 p13
                                          rw [p24, p13] at hK ⊢
                                          clear p24 p13
                                          unfold RunsOp
                                          have q1 := (hR.cell (p := ⟨bb, ob + kE * 7 + 1, none⟩) HCY.out.1 (by simp)).trans HCY.out.2.2.1
                                          have q2 := (hR.cell (p := ⟨bb, ob + kE * 7 + 2, none⟩) HCY.out.1 (by simp)).trans HCY.out.2.2.2.1
                                          have q3 := (hR.cell (p := ⟨bb, ob + kE * 7 + 3, none⟩) HCY.out.1 (by simp)).trans HCY.out.2.2.2.2.1
                                          have q4 := (hR.cell (p := ⟨bb, ob + kE * 7 + 4, none⟩) HCY.out.1 (by simp)).trans HCY.out.2.2.2.2.2.1
                                          have q5 := (hR.cell (p := ⟨bb, ob + kE * 7 + 5, none⟩) HCY.out.1 (by simp)).trans HCY.out.2.2.2.2.2.2.1
                                          go_simp
                                          exact hK.out _ _ ⟨_, rfl, Only.refl _ _, rfl⟩
                                        · intro vals wr hR hp K hK
                                          dsimp only at hK ⊢
                                          obtain ⟨p19, p25, p13, -, -⟩ := hp
                                          replace p19 := p19 rfl
                                          replace p25 := p25 rfl
                                          replace p13 := p13 rfl
                                          dsimp only at p19 p25 p13
                                          rw [p19, p25, p13] at hK ⊢
                                          clear p19 p25 p13
                                          unfold RunsOp
                                          go_simp
                                          refine (HCA.out _ ((Only.refl [] _).drew.trans hR (by simp))).mono ?_
                                          rintro e' w2 ⟨rfl, o2⟩
                                          exact hK.out _ _ ⟨_, rfl, o2, rfl⟩
                                        · intro vals wr hR hp K hK
                                          dsimp only at hK ⊢
                                          obtain ⟨p26, p13, -⟩ := hp
                                          replace p26 := p26 rfl
                                          replace p13 := p13 rfl
                                          dsimp only at p26 p13
                                          rw [p26, p13] at hK ⊢
                                          clear p26 p13
                                          unfold RunsOp
                                          go_simp
                                          exact hK.out _ _ ⟨_, rfl, Only.refl _ _, rfl⟩
                                        · intro vals wr hR hp K hK
                                          dsimp only at hK ⊢
                                          obtain ⟨p13, p27, -⟩ := hp
                                          replace p13 := p13 rfl
                                          replace p27 := p27 rfl
                                          dsimp only at p13 p27
                                          rw [p13, p27] at hK ⊢
                                          clear p13 p27
                                          unfold RunsOp
                                          go_simp
                                          exact hK.out _ _ ⟨_, rfl, Only.refl _ _, rfl⟩
                                        · intro vals wr hR hp K hK
                                          dsimp only at hK ⊢
                                          obtain ⟨p28, -, -⟩ := hp
                                          replace p28 := p28 rfl
                                          dsimp only at p28
                                          rw [p28] at hK ⊢
                                          clear p28
                                          unfold RunsOp
                                          go_simp
                                          exact hK.out _ _ ⟨_, rfl, Only.refl _ _, rfl⟩
                                        · intro vals wr hR hp K hK
                                          dsimp only at hK ⊢
                                          obtain ⟨p29, -⟩ := hp
                                          replace p29 := p29 rfl
                                          dsimp only at p29
                                          rw [p29] at hK ⊢
                                          clear p29
                                          unfold RunsOp
                                          go_simp
                                          exact hK.out _ _ ⟨_, rfl, Only.refl _ _, trivial⟩
                                        · intro vals wr hR hp K hK
                                          dsimp only at hK ⊢
                                          obtain ⟨-, p29, -⟩ := hp
                                          replace p29 := p29 rfl
                                          dsimp only at p29
                                          rw [p29] at hK ⊢
                                          clear p29
                                          unfold RunsOp
                                          go_simp
                                          exact hK.out _ _ ⟨_, rfl, Only.refl _ _, trivial⟩
                                        · intro vals wr hR hp K hK
                                          dsimp only at hK ⊢
                                          obtain ⟨p29, -⟩ := hp
                                          replace p29 := p29 rfl
                                          dsimp only at p29
                                          rw [p29] at hK ⊢
                                          clear p29
                                          unfold RunsOp
                                          go_simp
                                          exact hK.out _ _ ⟨_, rfl, Only.refl _ _, trivial⟩
                                        · intro vals wr hR hp K hK
                                          dsimp only at hK ⊢
                                          obtain ⟨-, -, p29, -⟩ := hp
                                          replace p29 := p29 rfl
                                          dsimp only at p29
                                          rw [p29] at hK ⊢
                                          clear p29
                                          unfold RunsOp
                                          go_simp
                                          exact hK.out _ _ ⟨_, rfl, Only.refl _ _, trivial⟩
                                        · intro vals wr hR hp K hK
                                          dsimp only at hK ⊢
                                          obtain ⟨-, p29, -⟩ := hp
                                          replace p29 := p29 rfl
                                          dsimp only at p29
                                          rw [p29] at hK ⊢
                                          clear p29
                                          unfold RunsOp
                                          go_simp
                                          exact hK.out _ _ ⟨_, rfl, Only.refl _ _, trivial⟩
                                        · intro vals wr hR hp K hK
                                          dsimp only at hK ⊢
                                          obtain ⟨-, p29, -⟩ := hp
                                          replace p29 := p29 rfl
                                          dsimp only at p29
                                          rw [p29] at hK ⊢
                                          clear p29
                                          unfold RunsOp
                                          go_simp
                                          exact hK.out _ _ ⟨_, rfl, Only.refl _ _, trivial⟩
                                        · intro vals wr hR hp K hK
                                          dsimp only at hK ⊢
                                          obtain ⟨p29, -⟩ := hp
                                          replace p29 := p29 rfl
                                          dsimp only at p29
                                          rw [p29] at hK ⊢
                                          clear p29
                                          unfold RunsOp
                                          go_simp
                                          exact hK.out _ _ ⟨_, rfl, Only.refl _ _, trivial⟩
                                        · intro vals wr hR hp K hK
                                          dsimp only at hK ⊢
                                          obtain ⟨-, p29, -⟩ := hp
                                          replace p29 := p29 rfl
                                          dsimp only at p29
                                          rw [p29] at hK ⊢
                                          clear p29
                                          unfold RunsOp
                                          go_simp
                                          exact hK.out _ _ ⟨_, rfl, Only.refl _ _, trivial⟩
                                        · intro vals wr hR hp K hK
                                          dsimp only at hK ⊢
                                          obtain ⟨p29, -⟩ := hp
                                          replace p29 := p29 rfl
                                          dsimp only at p29
                                          rw [p29] at hK ⊢
                                          clear p29
                                          unfold RunsOp
                                          go_simp
                                          exact hK.out _ _ ⟨_, rfl, Only.refl _ _, trivial⟩
                                        · intro vals wr hR hp K hK
                                          dsimp only at hK ⊢
                                          obtain ⟨-, -, p29, -⟩ := hp
                                          replace p29 := p29 rfl
                                          dsimp only at p29
                                          rw [p29] at hK ⊢
                                          clear p29
                                          unfold RunsOp
                                          go_simp
                                          exact hK.out _ _ ⟨_, rfl, Only.refl _ _, trivial⟩
                                        · intro vals wr hR hp K hK
                                          dsimp only at hK ⊢
                                          obtain ⟨-, p29, -⟩ := hp
                                          replace p29 := p29 rfl
                                          dsimp only at p29
                                          rw [p29] at hK ⊢
                                          clear p29
                                          unfold RunsOp
                                          go_simp
                                          exact hK.out _ _ ⟨_, rfl, Only.refl _ _, trivial⟩
                                        · intro vals wr hR hp K hK
                                          dsimp only at hK ⊢
                                          obtain ⟨-, p29, -⟩ := hp
                                          replace p29 := p29 rfl
                                          dsimp only at p29
                                          rw [p29] at hK ⊢
                                          clear p29
                                          unfold RunsOp
                                          go_simp
                                          exact hK.out _ _ ⟨_, rfl, Only.refl _ _, trivial⟩
                                        · intro vals wr hR hp K hK
                                          dsimp only at hK ⊢
                                          obtain ⟨-, -, p29, -, -⟩ := hp
                                          replace p29 := p29 rfl
                                          dsimp only at p29
                                          rw [p29] at hK ⊢
                                          clear p29
                                          unfold RunsOp
                                          go_simp
                                          exact hK.out _ _ ⟨_, rfl, Only.refl _ _, trivial⟩
                                        · intro vals wr hR hp K hK
                                          dsimp only at hK ⊢
                                          obtain ⟨-, p29, -⟩ := hp
                                          replace p29 := p29 rfl
                                          dsimp only at p29
                                          rw [p29] at hK ⊢
                                          clear p29
                                          unfold RunsOp
                                          go_simp
                                          exact hK.out _ _ ⟨_, rfl, Only.refl _ _, trivial⟩
                                        · intro vals wr hR hp K hK
                                          dsimp only at hK ⊢
                                          obtain ⟨p29, -, -⟩ := hp
                                          replace p29 := p29 rfl
                                          dsimp only at p29
                                          rw [p29] at hK ⊢
                                          clear p29
                                          unfold RunsOp
                                          go_simp
                                          exact hK.out _ _ ⟨_, rfl, Only.refl _ _, rfl⟩
                                      case donea2 =>
                                        intro vals wd hR hF
                                        have f0 : vals 0 = .pointer (some ⟨w.heap.size, 6, none⟩) := hF 0 (by decide)
                                        have f1 : vals 1 = .slice (some ⟨ba, oa, none⟩) xemitsl.length xemitsc := hF 1 (by decide)
                                        have f2 : vals 2 = .int .i64 (kE : Int) := hF 2 (by decide)
                                        have f3 : vals 3 = .pointer (some ⟨ba, oa + kE * 7, none⟩) := hF 3 (by decide)
                                        have f4 : vals 4 = .pointer (some ⟨ba, oa + kE * 7, none⟩) := hF 4 (by decide)
                                        have f5 : vals 5 = .string up := hF 5 (by decide)
                                        have f6 : vals 6 = .pointer (some ⟨w.heap.size + 1, 6, none⟩) := hF 6 (by decide)
                                        have f7 : vals 7 = .slice (some ⟨bb, ob, none⟩) yemitsl.length yemitsc := hF 7 (by decide)
                                        have f8 : vals 8 = .int .i64 (kE : Int) := hF 8 (by decide)
                                        have f9 : vals 9 = .pointer (some ⟨bb, ob + kE * 7, none⟩) := hF 9 (by decide)
                                        have f10 : vals 10 = .pointer (some ⟨bb, ob + kE * 7, none⟩) := hF 10 (by decide)
                                        have f11 : vals 11 = .string zp := hF 11 (by decide)
                                        have f12 : vals 12 = .bool false := hF 12 (by decide)
                                        have f13 : vals 13 = .bool false := hF 13 (by decide)
                                        have f14 : vals 14 = .pointer (some ⟨w.heap.size, 6, none⟩) := hF 14 (by decide)
                                        have f15 : vals 15 = .slice (some ⟨ba, oa, none⟩) xemitsl.length xemitsc := hF 15 (by decide)
                                        have f16 : vals 16 = .int .i64 (kE : Int) := hF 16 (by decide)
                                        have f17 : vals 17 = .pointer (some ⟨ba, oa + kE * 7, none⟩) := hF 17 (by decide)
                                        have f18 : vals 18 = .pointer (some ⟨ba, oa + kE * 7 + 1, none⟩) := hF 18 (by decide)
                                        have f19 : vals 19 = .agg #[.int .i64 ueo, .int .i64 uen, .string ues, .string ueu, .slice ueA uel.length uec] := hF 19 (by decide)
                                        have f20 : vals 20 = .pointer (some ⟨w.heap.size + 1, 6, none⟩) := hF 20 (by decide)
                                        have f21 : vals 21 = .slice (some ⟨bb, ob, none⟩) yemitsl.length yemitsc := hF 21 (by decide)
                                        have f22 : vals 22 = .int .i64 (kE : Int) := hF 22 (by decide)
                                        have f23 : vals 23 = .pointer (some ⟨bb, ob + kE * 7, none⟩) := hF 23 (by decide)
                                        have f24 : vals 24 = .pointer (some ⟨bb, ob + kE * 7 + 1, none⟩) := hF 24 (by decide)
                                        have f25 : vals 25 = .agg #[.int .i64 zeo, .int .i64 zen, .string zes, .string zeu, .slice zeA zel.length zec] := hF 25 (by decide)
                                        have f26 : vals 26 = .bool false := hF 26 (by decide)
                                        have f27 : vals 27 = .bool true := hF 27 (by decide)
                                        have f28 : vals 28 = .bool true := hF 28 (by decide)
                                        have f29 : vals 29 = .bool true := hF 29 (by decide)
                                        have f44 : vals 44 = .bool true := hF 44 (by decide)
                                        rw [f0, f1, f2, f3, f4, f5, f6, f7, f8, f9, f10, f11, f12, f13, f14, f15, f16, f17, f18, f19, f20, f21, f22, f23, f24, f25, f26, f27, f28, f29, f44]
                                        clear f0 f1 f2 f3 f4 f5 f6 f7 f8 f9 f10 f11 f12 f13 f14 f15 f16 f17 f18 f19 f20 f21 f22 f23 f24 f25 f26 f27 f28 f29 f44
                                        have HO5 := Lib.hid (HOr.out.trans ((Only.refl [] _).drew.trans hR (by simp)) (by simp))
                                        clear hR hF
                                        gi_wp2_with (fail)
                                        go_wp2_with (fail)
                                        go_ret
                                        exact ⟨by rw [show qE = false from HBAD.out (HPE.out.trans rfl)]; simp, HOPE.out.trans HO5.out (by simp)⟩
                                    · have EN := Lib.hid en
                                      clear en
                                      go_wp2_with (fail)
                                      clear bx6 by6 bxl byl
                                      refine (wpIn_wide (n := 9)).1 ?_
                                      refine wpIn_region_relR 45 (Only []) (fr := ?fra3) (tl := ?tla3) (fun iq v wv => match iq with
                                        | 0 => v = .pointer (some ⟨w.heap.size, 6, none⟩)
                                        | 1 => v = .slice (some ⟨ba, oa, none⟩) xemitsl.length xemitsc
                                        | 2 => v = .int .i64 (kE : Int)
                                        | 3 => v = .pointer (some ⟨ba, oa + kE * 7, none⟩)
                                        | 4 => v = .pointer (some ⟨ba, oa + kE * 7, none⟩)
                                        | 5 => v = .string up
                                        | 6 => v = .pointer (some ⟨w.heap.size + 1, 6, none⟩)
                                        | 7 => v = .slice (some ⟨bb, ob, none⟩) yemitsl.length yemitsc
                                        | 8 => v = .int .i64 (kE : Int)
                                        | 9 => v = .pointer (some ⟨bb, ob + kE * 7, none⟩)
                                        | 10 => v = .pointer (some ⟨bb, ob + kE * 7, none⟩)
                                        | 11 => v = .string zp
                                        | 12 => v = .bool false
                                        | 13 => v = .bool false
                                        | 14 => v = .pointer (some ⟨w.heap.size, 6, none⟩)
                                        | 15 => v = .slice (some ⟨ba, oa, none⟩) xemitsl.length xemitsc
                                        | 16 => v = .int .i64 (kE : Int)
                                        | 17 => v = .pointer (some ⟨ba, oa + kE * 7, none⟩)
                                        | 18 => v = .pointer (some ⟨ba, oa + kE * 7 + 1, none⟩)
                                        | 19 => v = .agg #[.int .i64 ueo, .int .i64 uen, .string ues, .string ueu, .slice ueA uel.length uec]
                                        | 20 => v = .pointer (some ⟨w.heap.size + 1, 6, none⟩)
                                        | 21 => v = .slice (some ⟨bb, ob, none⟩) yemitsl.length yemitsc
                                        | 22 => v = .int .i64 (kE : Int)
                                        | 23 => v = .pointer (some ⟨bb, ob + kE * 7, none⟩)
                                        | 24 => v = .pointer (some ⟨bb, ob + kE * 7 + 1, none⟩)
                                        | 25 => v = .agg #[.int .i64 zeo, .int .i64 zen, .string zes, .string zeu, .slice zeA zel.length zec]
                                        | 26 => v = .bool true
                                        | 27 => v = .bool false
                                        | 28 => v = .bool false
                                        | 29 => v = .bool false
                                        | 30 => v = .pointer (some ⟨w.heap.size, 6, none⟩)
                                        | 31 => v = .slice (some ⟨ba, oa, none⟩) xemitsl.length xemitsc
                                        | 32 => v = .int .i64 (kE : Int)
                                        | 33 => v = .pointer (some ⟨ba, oa + kE * 7, none⟩)
                                        | 34 => v = .pointer (some ⟨ba, oa + kE * 7 + 6, none⟩)
                                        | 35 => v = .slice uiA uil.length uic
                                        | 36 => v = .pointer (some ⟨w.heap.size + 1, 6, none⟩)
                                        | 37 => v = .slice (some ⟨bb, ob, none⟩) yemitsl.length yemitsc
                                        | 38 => v = .int .i64 (kE : Int)
                                        | 39 => v = .pointer (some ⟨bb, ob + kE * 7, none⟩)
                                        | 40 => v = .pointer (some ⟨bb, ob + kE * 7 + 6, none⟩)
                                        | 41 => v = .slice ziA zil.length zic
                                        | 42 => v = .bool pi
                                        | 43 => v = .bool !pi
                                        | 44 => v = .bool !pi
                                        | _ => True) (.inl rfl) (by kernel_rfl) (by kernel_rfl) (by kernel_rfl) (by kernel_rfl) (by kernel_rfl) (by kernel_rfl) (by decide) ?htla3 ?hfra3 (Only.refl _ _) (fun _ _ _ h k => h.trans k (fun _ hx => .inl hx)) ?staba3 ?stepsa3 ?donea3
                                      case htla3 => simp only [List.drop_succ_cons, List.drop_zero]; rfl
                                      case hfra3 => intro vals; simp only [putAll, dstAt, Act.put, List.getElem?_toArray, List.getElem?_cons_zero, List.getElem?_cons_succ, Option.bind_some, List.setIfInBounds_toArray, List.set_cons_zero, List.set_cons_succ]; rfl
                                      case staba3 =>
                                        intro i v wa wb h
                                        try dsimp only
                                        split <;> first | exact id
                                      case stepsa3 =>
                                        refine ⟨?_, ?_, ?_, ?_, ?_, ?_, ?_, ?_, ?_, ?_, ?_, ?_, ?_, ?_, ?_, ?_, ?_, ?_, ?_, ?_, ?_, ?_, ?_, ?_, ?_, ?_, ?_, ?_, ?_, ?_, ?_, ?_, ?_, ?_, ?_, ?_, ?_, ?_, ?_, ?_, ?_, ?_, ?_, ?_, ?_, trivial⟩
                                        · intro vals wr hR hp K hK
                                          dsimp only at hK ⊢
                                          clear hp
                                          unfold RunsOp
                                          go_simp
                                          exact hK.out _ _ ⟨_, rfl, Only.refl _ _, rfl⟩
                                        · intro vals wr hR hp K hK
                                          dsimp only at hK ⊢
                                          obtain ⟨p0, -⟩ := hp
                                          replace p0 := p0 rfl
                                          dsimp only at p0
                                          rw [p0] at hK ⊢
                                          clear p0
                                          unfold RunsOp
                                          obtain ⟨k0, k1, k2, k3, k4, k5, k6, k7, k8, k9, k10, k11, k12, k13, kl⟩ := (hR.blk (Blk.drew HXE.out) (by simp)).facts14
                                          go_simp
                                          exact hK.out _ _ ⟨_, rfl, Only.refl _ _, rfl⟩
                                        · intro vals wr hR hp K hK
                                          dsimp only at hK ⊢
                                          clear hp
                                          unfold RunsOp
                                          go_simp
                                          exact hK.out _ _ ⟨_, rfl, Only.refl _ _, rfl⟩
                                        · intro vals wr hR hp K hK
                                          dsimp only at hK ⊢
                                          obtain ⟨p1, p2, -⟩ := hp
                                          replace p1 := p1 rfl
                                          replace p2 := p2 rfl
                                          dsimp only at p1 p2
                                          rw [p1, p2] at hK ⊢
                                          clear p1 p2
                                          unfold RunsOp
                                          go_simp
                                          exact hK.out _ _ ⟨_, rfl, Only.refl _ _, rfl⟩
                                        · intro vals wr hR hp K hK
                                          dsimp only at hK ⊢
                                          obtain ⟨p3, -⟩ := hp
                                          replace p3 := p3 rfl
                                          dsimp only at p3
                                          rw [p3] at hK ⊢
                                          clear p3
                                          unfold RunsOp
                                          go_simp
                                          exact hK.out _ _ ⟨_, rfl, Only.refl _ _, rfl⟩
                                        · intro vals wr hR hp K hK
                                          dsimp only at hK ⊢
                                          obtain ⟨p4, -⟩ := hp
                                          replace p4 := p4 rfl
                                          dsimp only at p4
                                          rw [p4] at hK ⊢
                                          clear p4
                                          unfold RunsOp
                                          have q0 := (hR.cell (p := ⟨ba, oa + kE * 7, none⟩) HCX.out.1 (by simp)).trans HCX.out.2.1
                                          go_simp
                                          exact hK.out _ _ ⟨_, rfl, Only.refl _ _, rfl⟩
                                        · intro vals wr hR hp K hK
                                          dsimp only at hK ⊢
                                          clear hp
                                          unfold RunsOp
                                          go_simp
                                          exact hK.out _ _ ⟨_, rfl, Only.refl _ _, rfl⟩
                                        · intro vals wr hR hp K hK
                                          dsimp only at hK ⊢
                                          obtain ⟨p6, -⟩ := hp
                                          replace p6 := p6 rfl
                                          dsimp only at p6
                                          rw [p6] at hK ⊢
                                          clear p6
                                          unfold RunsOp
                                          obtain ⟨k0, k1, k2, k3, k4, k5, k6, k7, k8, k9, k10, k11, k12, k13, kl⟩ := (hR.blk (Blk.drew HYE.out) (by simp)).facts14
                                          go_simp
                                          exact hK.out _ _ ⟨_, rfl, Only.refl _ _, rfl⟩
                                        · intro vals wr hR hp K hK
                                          dsimp only at hK ⊢
                                          clear hp
                                          unfold RunsOp
                                          go_simp
                                          exact hK.out _ _ ⟨_, rfl, Only.refl _ _, rfl⟩
                                        · intro vals wr hR hp K hK
                                          dsimp only at hK ⊢
                                          obtain ⟨p7, p8, -⟩ := hp
                                          replace p7 := p7 rfl
                                          replace p8 := p8 rfl
                                          dsimp only at p7 p8
                                          rw [p7, p8] at hK ⊢
                                          clear p7 p8
                                          unfold RunsOp
                                          go_simp
                                          exact hK.out _ _ ⟨_, rfl, Only.refl _ _, rfl⟩
                                        · intro vals wr hR hp K hK
                                          dsimp only at hK ⊢
                                          obtain ⟨p9, -⟩ := hp
                                          replace p9 := p9 rfl
                                          dsimp only at p9
                                          rw [p9] at hK ⊢
                                          clear p9
                                          unfold RunsOp
                                          go_simp
                                          exact hK.out _ _ ⟨_, rfl, Only.refl _ _, rfl⟩
                                        · intro vals wr hR hp K hK
                                          dsimp only at hK ⊢
                                          obtain ⟨p10, -⟩ := hp
                                          replace p10 := p10 rfl
                                          dsimp only at p10
                                          rw [p10] at hK ⊢
                                          clear p10
                                          unfold RunsOp
                                          have q0 := (hR.cell (p := ⟨bb, ob + kE * 7, none⟩) HCY.out.1 (by simp)).trans HCY.out.2.1
                                          go_simp
                                          exact hK.out _ _ ⟨_, rfl, Only.refl _ _, rfl⟩
                                        · intro vals wr hR hp K hK
                                          dsimp only at hK ⊢
                                          obtain ⟨p5, p11, -⟩ := hp
                                          replace p5 := p5 rfl
                                          replace p11 := p11 rfl
                                          dsimp only at p5 p11
                                          rw [p5, p11] at hK ⊢
                                          clear p5 p11
                                          unfold RunsOp
                                          have en := EN.out
                                          go_simp
                                          exact hK.out _ _ ⟨_, rfl, Only.refl _ _, rfl⟩
                                        · intro vals wr hR hp K hK
                                          dsimp only at hK ⊢
                                          obtain ⟨p12, -⟩ := hp
                                          replace p12 := p12 rfl
                                          dsimp only at p12
                                          rw [p12] at hK ⊢
                                          clear p12
                                          unfold RunsOp
                                          go_simp
                                          exact hK.out _ _ ⟨_, rfl, Only.refl _ _, rfl⟩
                                        · intro vals wr hR hp K hK
                                          dsimp only at hK ⊢
                                          obtain ⟨p13, -⟩ := hp
                                          replace p13 := p13 rfl
                                          dsimp only at p13
                                          rw [p13] at hK ⊢
                                          clear p13
                                          unfold RunsOp
                                          go_simp
                                          exact hK.out _ _ ⟨_, rfl, Only.refl _ _, rfl⟩
                                        · intro vals wr hR hp K hK
                                          dsimp only at hK ⊢
                                          obtain ⟨p14, p13, -⟩ := hp
                                          replace p14 := p14 rfl
                                          replace p13 := p13 rfl
                                          dsimp only at p14 p13
                                          rw [p14, p13] at hK ⊢
                                          clear p14 p13
                                          unfold RunsOp
                                          obtain ⟨k0, k1, k2, k3, k4, k5, k6, k7, k8, k9, k10, k11, k12, k13, kl⟩ := (hR.blk (Blk.drew HXE.out) (by simp)).facts14
                                          go_simp
                                          exact hK.out _ _ ⟨_, rfl, Only.refl _ _, rfl⟩
                                        · intro vals wr hR hp K hK
                                          dsimp only at hK ⊢
                                          obtain ⟨p13, -⟩ := hp
                                          replace p13 := p13 rfl
                                          dsimp only at p13
                                          rw [p13] at hK ⊢
                                          clear p13
                                          unfold RunsOp
                                          go_simp
                                          exact hK.out _ _ ⟨_, rfl, Only.refl _ _, rfl⟩
                                        · intro vals wr hR hp K hK
                                          dsimp only at hK ⊢
                                          obtain ⟨p15, p16, p13, -⟩ := hp
                                          replace p15 := p15 rfl
                                          replace p16 := p16 rfl
                                          replace p13 := p13 rfl
                                          dsimp only at p15 p16 p13
                                          rw [p15, p16, p13] at hK ⊢
                                          clear p15 p16 p13
                                          unfold RunsOp
                                          go_simp
                                          exact hK.out _ _ ⟨_, rfl, Only.refl _ _, rfl⟩
                                        · intro vals wr hR hp K hK
                                          dsimp only at hK ⊢
                                          obtain ⟨p17, p13, -⟩ := hp
                                          replace p17 := p17 rfl
                                          replace p13 := p13 rfl
                                          dsimp only at p17 p13
                                          rw [p17, p13] at hK ⊢
                                          clear p17 p13
                                          unfold RunsOp
                                          go_simp
                                          exact hK.out _ _ ⟨_, rfl, Only.refl _ _, rfl⟩
                                        · intro vals wr hR hp K hK
                                          dsimp only at hK ⊢
                                          obtain ⟨p18, p13, -⟩ := hp
                                          replace p18 := p18 rfl
                                          replace p13 := p13 rfl
                                          dsimp only at p18 p13
                                          rw [p18, p13] at hK ⊢
                                          clear p18 p13
                                          unfold RunsOp
                                          have q1 := (hR.cell (p := ⟨ba, oa + kE * 7 + 1, none⟩) HCX.out.1 (by simp)).trans HCX.out.2.2.1
                                          have q2 := (hR.cell (p := ⟨ba, oa + kE * 7 + 2, none⟩) HCX.out.1 (by simp)).trans HCX.out.2.2.2.1
                                          have q3 := (hR.cell (p := ⟨ba, oa + kE * 7 + 3, none⟩) HCX.out.1 (by simp)).trans HCX.out.2.2.2.2.1
                                          have q4 := (hR.cell (p := ⟨ba, oa + kE * 7 + 4, none⟩) HCX.out.1 (by simp)).trans HCX.out.2.2.2.2.2.1
                                          have q5 := (hR.cell (p := ⟨ba, oa + kE * 7 + 5, none⟩) HCX.out.1 (by simp)).trans HCX.out.2.2.2.2.2.2.1
                                          go_simp
                                          exact hK.out _ _ ⟨_, rfl, Only.refl _ _, rfl⟩
                                        · intro vals wr hR hp K hK
                                          dsimp only at hK ⊢
                                          obtain ⟨p13, -⟩ := hp
                                          replace p13 := p13 rfl
                                          dsimp only at p13
                                          rw [p13] at hK ⊢
                                          clear p13
                                          unfold RunsOp
                                          go_simp
                                          exact hK.out _ _ ⟨_, rfl, Only.refl _ _, rfl⟩
                                        · intro vals wr hR hp K hK
                                          dsimp only at hK ⊢
                                          obtain ⟨p20, p13, -⟩ := hp
                                          replace p20 := p20 rfl
                                          replace p13 := p13 rfl
                                          dsimp only at p20 p13
                                          rw [p20, p13] at hK ⊢
                                          clear p20 p13
                                          unfold RunsOp
                                          obtain ⟨k0, k1, k2, k3, k4, k5, k6, k7, k8, k9, k10, k11, k12, k13, kl⟩ := (hR.blk (Blk.drew HYE.out) (by simp)).facts14
                                          go_simp
                                          exact hK.out _ _ ⟨_, rfl, Only.refl _ _, rfl⟩
                                        · intro vals wr hR hp K hK
                                          dsimp only at hK ⊢
                                          obtain ⟨p13, -⟩ := hp
                                          replace p13 := p13 rfl
                                          dsimp only at p13
                                          rw [p13] at hK ⊢
                                          clear p13
                                          unfold RunsOp
                                          go_simp
                                          exact hK.out _ _ ⟨_, rfl, Only.refl _ _, rfl⟩
                                        · intro vals wr hR hp K hK
                                          dsimp only at hK ⊢
                                          obtain ⟨p21, p22, p13, -⟩ := hp
                                          replace p21 := p21 rfl
                                          replace p22 := p22 rfl
                                          replace p13 := p13 rfl
                                          dsimp only at p21 p22 p13
                                          rw [p21, p22, p13] at hK ⊢
                                          clear p21 p22 p13
                                          unfold RunsOp
                                          go_simp
                                          exact hK.out _ _ ⟨_, rfl, Only.refl _ _, rfl⟩
                                        · intro vals wr hR hp K hK
                                          dsimp only at hK ⊢
                                          obtain ⟨p23, p13, -⟩ := hp
                                          replace p23 := p23 rfl
                                          replace p13 := p13 rfl
                                          dsimp only at p23 p13
                                          rw [p23, p13] at hK ⊢
                                          clear p23 p13
                                          unfold RunsOp
                                          go_simp
                                          exact hK.out _ _ ⟨_, rfl, Only.refl _ _, rfl⟩
                                        · intro vals wr hR hp K hK
                                          dsimp only at hK ⊢
                                          obtain ⟨p24, p13, -⟩ := hp
                                          replace p24 := p24 rfl
                                          replace p13 := p13 rfl
                                          dsimp only at p24 p13
                                          rw [p24, p13] at hK ⊢
                                          clear p24 p13
                                          unfold RunsOp
                                          have q1 := (hR.cell (p := ⟨bb, ob + kE * 7 + 1, none⟩) HCY.out.1 (by simp)).trans HCY.out.2.2.1
                                          have q2 := (hR.cell (p := ⟨bb, ob + kE * 7 + 2, none⟩) HCY.out.1 (by simp)).trans HCY.out.2.2.2.1
                                          have q3 := (hR.cell (p := ⟨bb, ob + kE * 7 + 3, none⟩) HCY.out.1 (by simp)).trans HCY.out.2.2.2.2.1
                                          have q4 := (hR.cell (p := ⟨bb, ob + kE * 7 + 4, none⟩) HCY.out.1 (by simp)).trans HCY.out.2.2.2.2.2.1
                                          have q5 := (hR.cell (p := ⟨bb, ob + kE * 7 + 5, none⟩) HCY.out.1 (by simp)).trans HCY.out.2.2.2.2.2.2.1
                                          go_simp
                                          exact hK.out _ _ ⟨_, rfl, Only.refl _ _, rfl⟩
                                        · intro vals wr hR hp K hK
                                          dsimp only at hK ⊢
                                          obtain ⟨p19, p25, p13, -, -⟩ := hp
                                          replace p19 := p19 rfl
                                          replace p25 := p25 rfl
                                          replace p13 := p13 rfl
                                          dsimp only at p19 p25 p13
                                          rw [p19, p25, p13] at hK ⊢
                                          clear p19 p25 p13
                                          unfold RunsOp
                                          go_simp
                                          refine (HCA.out _ ((Only.refl [] _).drew.trans hR (by simp))).mono ?_
                                          rintro e' w2 ⟨rfl, o2⟩
                                          exact hK.out _ _ ⟨_, rfl, o2, rfl⟩
                                        · intro vals wr hR hp K hK
                                          dsimp only at hK ⊢
                                          obtain ⟨p26, p13, -⟩ := hp
                                          replace p26 := p26 rfl
                                          replace p13 := p13 rfl
                                          dsimp only at p26 p13
                                          rw [p26, p13] at hK ⊢
                                          clear p26 p13
                                          unfold RunsOp
                                          go_simp
                                          exact hK.out _ _ ⟨_, rfl, Only.refl _ _, rfl⟩
                                        · intro vals wr hR hp K hK
                                          dsimp only at hK ⊢
                                          obtain ⟨p13, p27, -⟩ := hp
                                          replace p13 := p13 rfl
                                          replace p27 := p27 rfl
                                          dsimp only at p13 p27
                                          rw [p13, p27] at hK ⊢
                                          clear p13 p27
                                          unfold RunsOp
                                          go_simp
                                          exact hK.out _ _ ⟨_, rfl, Only.refl _ _, rfl⟩
                                        · intro vals wr hR hp K hK
                                          dsimp only at hK ⊢
                                          obtain ⟨p28, -, -⟩ := hp
                                          replace p28 := p28 rfl
                                          dsimp only at p28
                                          rw [p28] at hK ⊢
                                          clear p28
                                          unfold RunsOp
                                          go_simp
                                          exact hK.out _ _ ⟨_, rfl, Only.refl _ _, rfl⟩
                                        · intro vals wr hR hp K hK
                                          dsimp only at hK ⊢
                                          obtain ⟨p29, -⟩ := hp
                                          replace p29 := p29 rfl
                                          dsimp only at p29
                                          rw [p29] at hK ⊢
                                          clear p29
                                          unfold RunsOp
                                          go_simp
                                          exact hK.out _ _ ⟨_, rfl, Only.refl _ _, rfl⟩
                                        · intro vals wr hR hp K hK
                                          dsimp only at hK ⊢
                                          obtain ⟨p30, p29, -⟩ := hp
                                          replace p30 := p30 rfl
                                          replace p29 := p29 rfl
                                          dsimp only at p30 p29
                                          rw [p30, p29] at hK ⊢
                                          clear p30 p29
                                          unfold RunsOp
                                          obtain ⟨k0, k1, k2, k3, k4, k5, k6, k7, k8, k9, k10, k11, k12, k13, kl⟩ := (hR.blk (Blk.drew HXE.out) (by simp)).facts14
                                          go_simp
                                          exact hK.out _ _ ⟨_, rfl, Only.refl _ _, rfl⟩
                                        · intro vals wr hR hp K hK
                                          dsimp only at hK ⊢
                                          obtain ⟨p29, -⟩ := hp
                                          replace p29 := p29 rfl
                                          dsimp only at p29
                                          rw [p29] at hK ⊢
                                          clear p29
                                          unfold RunsOp
                                          go_simp
                                          exact hK.out _ _ ⟨_, rfl, Only.refl _ _, rfl⟩
                                        · intro vals wr hR hp K hK
                                          dsimp only at hK ⊢
                                          obtain ⟨p31, p32, p29, -⟩ := hp
                                          replace p31 := p31 rfl
                                          replace p32 := p32 rfl
                                          replace p29 := p29 rfl
                                          dsimp only at p31 p32 p29
                                          rw [p31, p32, p29] at hK ⊢
                                          clear p31 p32 p29
                                          unfold RunsOp
                                          go_simp
                                          exact hK.out _ _ ⟨_, rfl, Only.refl _ _, rfl⟩
                                        · intro vals wr hR hp K hK
                                          dsimp only at hK ⊢
                                          obtain ⟨p33, p29, -⟩ := hp
                                          replace p33 := p33 rfl
                                          replace p29 := p29 rfl
                                          dsimp only at p33 p29
                                          rw [p33, p29] at hK ⊢
                                          clear p33 p29
                                          unfold RunsOp
                                          go_simp
                                          exact hK.out _ _ ⟨_, rfl, Only.refl _ _, rfl⟩
                                        · intro vals wr hR hp K hK
                                          dsimp only at hK ⊢
                                          obtain ⟨p34, p29, -⟩ := hp
                                          replace p34 := p34 rfl
                                          replace p29 := p29 rfl
                                          dsimp only at p34 p29
                                          rw [p34, p29] at hK ⊢
                                          clear p34 p29
                                          unfold RunsOp
                                          have q6 := (hR.cell (p := ⟨ba, oa + kE * 7 + 6, none⟩) HCX.out.1 (by simp)).trans HCX.out.2.2.2.2.2.2.2
                                          go_simp
                                          exact hK.out _ _ ⟨_, rfl, Only.refl _ _, rfl⟩
                                        · intro vals wr hR hp K hK
                                          dsimp only at hK ⊢
                                          obtain ⟨p29, -⟩ := hp
                                          replace p29 := p29 rfl
                                          dsimp only at p29
                                          rw [p29] at hK ⊢
                                          clear p29
                                          unfold RunsOp
                                          go_simp
                                          exact hK.out _ _ ⟨_, rfl, Only.refl _ _, rfl⟩
                                        · intro vals wr hR hp K hK
                                          dsimp only at hK ⊢
                                          obtain ⟨p36, p29, -⟩ := hp
                                          replace p36 := p36 rfl
                                          replace p29 := p29 rfl
                                          dsimp only at p36 p29
                                          rw [p36, p29] at hK ⊢
                                          clear p36 p29
                                          unfold RunsOp
                                          obtain ⟨k0, k1, k2, k3, k4, k5, k6, k7, k8, k9, k10, k11, k12, k13, kl⟩ := (hR.blk (Blk.drew HYE.out) (by simp)).facts14
                                          go_simp
                                          exact hK.out _ _ ⟨_, rfl, Only.refl _ _, rfl⟩
                                        · intro vals wr hR hp K hK
                                          dsimp only at hK ⊢
                                          obtain ⟨p29, -⟩ := hp
                                          replace p29 := p29 rfl
                                          dsimp only at p29
                                          rw [p29] at hK ⊢
                                          clear p29
                                          unfold RunsOp
                                          go_simp
                                          exact hK.out _ _ ⟨_, rfl, Only.refl _ _, rfl⟩
                                        · intro vals wr hR hp K hK
                                          dsimp only at hK ⊢
                                          obtain ⟨p37, p38, p29, -⟩ := hp
                                          replace p37 := p37 rfl
                                          replace p38 := p38 rfl
                                          replace p29 := p29 rfl
                                          dsimp only at p37 p38 p29
                                          rw [p37, p38, p29] at hK ⊢
                                          clear p37 p38 p29
                                          unfold RunsOp
                                          go_simp
                                          exact hK.out _ _ ⟨_, rfl, Only.refl _ _, rfl⟩
                                        · intro vals wr hR hp K hK
                                          dsimp only at hK ⊢
                                          obtain ⟨p39, p29, -⟩ := hp
                                          replace p39 := p39 rfl
                                          replace p29 := p29 rfl
                                          dsimp only at p39 p29
                                          rw [p39, p29] at hK ⊢
                                          clear p39 p29
                                          unfold RunsOp
                                          go_simp
                                          exact hK.out _ _ ⟨_, rfl, Only.refl _ _, rfl⟩
                                        · intro vals wr hR hp K hK
                                          dsimp only at hK ⊢
                                          obtain ⟨p40, p29, -⟩ := hp
                                          replace p40 := p40 rfl
                                          replace p29 := p29 rfl
                                          dsimp only at p40 p29
                                          rw [p40, p29] at hK ⊢
                                          clear p40 p29
                                          unfold RunsOp
                                          have q6 := (hR.cell (p := ⟨bb, ob + kE * 7 + 6, none⟩) HCY.out.1 (by simp)).trans HCY.out.2.2.2.2.2.2.2
                                          go_simp
                                          exact hK.out _ _ ⟨_, rfl, Only.refl _ _, rfl⟩
                                        · intro vals wr hR hp K hK
                                          dsimp only at hK ⊢
                                          obtain ⟨p35, p41, p29, -, -⟩ := hp
                                          replace p35 := p35 rfl
                                          replace p41 := p41 rfl
                                          replace p29 := p29 rfl
                                          dsimp only at p35 p41 p29
                                          rw [p35, p41, p29] at hK ⊢
                                          clear p35 p41 p29
                                          unfold RunsOp
                                          go_simp
                                          refine (HCB.out _ ((Only.refl [] _).drew.trans hR (by simp))).mono ?_
                                          rintro e' w2 ⟨rfl, o2⟩
                                          exact hK.out _ _ ⟨_, rfl, o2, rfl⟩
                                        · intro vals wr hR hp K hK
                                          dsimp only at hK ⊢
                                          obtain ⟨p42, p29, -⟩ := hp
                                          replace p42 := p42 rfl
                                          replace p29 := p29 rfl
                                          dsimp only at p42 p29
                                          rw [p42, p29] at hK ⊢
                                          clear p42 p29
                                          unfold RunsOp
                                          go_simp
                                          exact hK.out _ _ ⟨_, rfl, Only.refl _ _, rfl⟩
                                        · intro vals wr hR hp K hK
                                          dsimp only at hK ⊢
                                          obtain ⟨p29, p43, -⟩ := hp
                                          replace p29 := p29 rfl
                                          replace p43 := p43 rfl
                                          dsimp only at p29 p43
                                          rw [p29, p43] at hK ⊢
                                          clear p29 p43
                                          unfold RunsOp
                                          go_simp
                                          exact hK.out _ _ ⟨_, rfl, Only.refl _ _, rfl⟩
                                      case donea3 =>
                                        intro vals wd hR hF
                                        have f0 : vals 0 = .pointer (some ⟨w.heap.size, 6, none⟩) := hF 0 (by decide)
                                        have f1 : vals 1 = .slice (some ⟨ba, oa, none⟩) xemitsl.length xemitsc := hF 1 (by decide)
                                        have f2 : vals 2 = .int .i64 (kE : Int) := hF 2 (by decide)
                                        have f3 : vals 3 = .pointer (some ⟨ba, oa + kE * 7, none⟩) := hF 3 (by decide)
                                        have f4 : vals 4 = .pointer (some ⟨ba, oa + kE * 7, none⟩) := hF 4 (by decide)
                                        have f5 : vals 5 = .string up := hF 5 (by decide)
                                        have f6 : vals 6 = .pointer (some ⟨w.heap.size + 1, 6, none⟩) := hF 6 (by decide)
                                        have f7 : vals 7 = .slice (some ⟨bb, ob, none⟩) yemitsl.length yemitsc := hF 7 (by decide)
                                        have f8 : vals 8 = .int .i64 (kE : Int) := hF 8 (by decide)
                                        have f9 : vals 9 = .pointer (some ⟨bb, ob + kE * 7, none⟩) := hF 9 (by decide)
                                        have f10 : vals 10 = .pointer (some ⟨bb, ob + kE * 7, none⟩) := hF 10 (by decide)
                                        have f11 : vals 11 = .string zp := hF 11 (by decide)
                                        have f12 : vals 12 = .bool false := hF 12 (by decide)
                                        have f13 : vals 13 = .bool false := hF 13 (by decide)
                                        have f14 : vals 14 = .pointer (some ⟨w.heap.size, 6, none⟩) := hF 14 (by decide)
                                        have f15 : vals 15 = .slice (some ⟨ba, oa, none⟩) xemitsl.length xemitsc := hF 15 (by decide)
                                        have f16 : vals 16 = .int .i64 (kE : Int) := hF 16 (by decide)
                                        have f17 : vals 17 = .pointer (some ⟨ba, oa + kE * 7, none⟩) := hF 17 (by decide)
                                        have f18 : vals 18 = .pointer (some ⟨ba, oa + kE * 7 + 1, none⟩) := hF 18 (by decide)
                                        have f19 : vals 19 = .agg #[.int .i64 ueo, .int .i64 uen, .string ues, .string ueu, .slice ueA uel.length uec] := hF 19 (by decide)
                                        have f20 : vals 20 = .pointer (some ⟨w.heap.size + 1, 6, none⟩) := hF 20 (by decide)
                                        have f21 : vals 21 = .slice (some ⟨bb, ob, none⟩) yemitsl.length yemitsc := hF 21 (by decide)
                                        have f22 : vals 22 = .int .i64 (kE : Int) := hF 22 (by decide)
                                        have f23 : vals 23 = .pointer (some ⟨bb, ob + kE * 7, none⟩) := hF 23 (by decide)
                                        have f24 : vals 24 = .pointer (some ⟨bb, ob + kE * 7 + 1, none⟩) := hF 24 (by decide)
                                        have f25 : vals 25 = .agg #[.int .i64 zeo, .int .i64 zen, .string zes, .string zeu, .slice zeA zel.length zec] := hF 25 (by decide)
                                        have f26 : vals 26 = .bool true := hF 26 (by decide)
                                        have f27 : vals 27 = .bool false := hF 27 (by decide)
                                        have f28 : vals 28 = .bool false := hF 28 (by decide)
                                        have f29 : vals 29 = .bool false := hF 29 (by decide)
                                        have f30 : vals 30 = .pointer (some ⟨w.heap.size, 6, none⟩) := hF 30 (by decide)
                                        have f31 : vals 31 = .slice (some ⟨ba, oa, none⟩) xemitsl.length xemitsc := hF 31 (by decide)
                                        have f32 : vals 32 = .int .i64 (kE : Int) := hF 32 (by decide)
                                        have f33 : vals 33 = .pointer (some ⟨ba, oa + kE * 7, none⟩) := hF 33 (by decide)
                                        have f34 : vals 34 = .pointer (some ⟨ba, oa + kE * 7 + 6, none⟩) := hF 34 (by decide)
                                        have f35 : vals 35 = .slice uiA uil.length uic := hF 35 (by decide)
                                        have f36 : vals 36 = .pointer (some ⟨w.heap.size + 1, 6, none⟩) := hF 36 (by decide)
                                        have f37 : vals 37 = .slice (some ⟨bb, ob, none⟩) yemitsl.length yemitsc := hF 37 (by decide)
                                        have f38 : vals 38 = .int .i64 (kE : Int) := hF 38 (by decide)
                                        have f39 : vals 39 = .pointer (some ⟨bb, ob + kE * 7, none⟩) := hF 39 (by decide)
                                        have f40 : vals 40 = .pointer (some ⟨bb, ob + kE * 7 + 6, none⟩) := hF 40 (by decide)
                                        have f41 : vals 41 = .slice ziA zil.length zic := hF 41 (by decide)
                                        have f42 : vals 42 = .bool pi := hF 42 (by decide)
                                        have f43 : vals 43 = .bool !pi := hF 43 (by decide)
                                        have f44 : vals 44 = .bool !pi := hF 44 (by decide)
                                        rw [f0, f1, f2, f3, f4, f5, f6, f7, f8, f9, f10, f11, f12, f13, f14, f15, f16, f17, f18, f19, f20, f21, f22, f23, f24, f25, f26, f27, f28, f29, f30, f31, f32, f33, f34, f35, f36, f37, f38, f39, f40, f41, f42, f43, f44]
                                        clear f0 f1 f2 f3 f4 f5 f6 f7 f8 f9 f10 f11 f12 f13 f14 f15 f16 f17 f18 f19 f20 f21 f22 f23 f24 f25 f26 f27 f28 f29 f30 f31 f32 f33 f34 f35 f36 f37 f38 f39 f40 f41 f42 f43 f44
                                        have HO5 := Lib.hid (HOr.out.trans ((Only.refl [] _).drew.trans hR (by simp)) (by simp))
                                        clear hR hF
                                        gi_wp2_with (fail)
                                        cases pi
                                        · go_wp2_with (fail)
                                          go_ret
                                          exact ⟨by rw [show qE = false from HBAD.out (HPE.out.trans rfl)]; simp, HOPE.out.trans HO5.out (by simp)⟩
                                        · go_wp2_with (fail)
                                          go_roundw
                                          case rel => exact ⟨kE + 1, by go_num, by omega, Lib.hid (by rw [HTK.out, HP.out, HPE.out]; rfl), HO5⟩
                                          case measure => simp [intOf] <;> omega
                                  · have HPE2 := Lib.hid (HPE.out.trans (show (eqS up zp && pe && pi) = false from by simp [eqS, en]))
                                    replace HPE := HPE2
                                    clear HPE2
                                    have EN := Lib.hid en
                                    clear en
                                    go_wp2_with (fail)
                                    clear bx6 by6 bxl byl
                                    refine (wpIn_wide (n := 9)).1 ?_
                                    refine wpIn_region_relR 45 (Only []) (fr := ?fra1) (tl := ?tla1) (fun iq v wv => match iq with
                                      | 0 => v = .pointer (some ⟨w.heap.size, 6, none⟩)
                                      | 1 => v = .slice (some ⟨ba, oa, none⟩) xemitsl.length xemitsc
                                      | 2 => v = .int .i64 (kE : Int)
                                      | 3 => v = .pointer (some ⟨ba, oa + kE * 7, none⟩)
                                      | 4 => v = .pointer (some ⟨ba, oa + kE * 7, none⟩)
                                      | 5 => v = .string up
                                      | 6 => v = .pointer (some ⟨w.heap.size + 1, 6, none⟩)
                                      | 7 => v = .slice (some ⟨bb, ob, none⟩) yemitsl.length yemitsc
                                      | 8 => v = .int .i64 (kE : Int)
                                      | 9 => v = .pointer (some ⟨bb, ob + kE * 7, none⟩)
                                      | 10 => v = .pointer (some ⟨bb, ob + kE * 7, none⟩)
                                      | 11 => v = .string zp
                                      | 12 => v = .bool true
                                      | 13 => v = .bool true
                                      | 28 => v = .bool true
                                      | 29 => v = .bool true
                                      | 44 => v = .bool true
                                      | _ => True) (.inl rfl) (by kernel_rfl) (by kernel_rfl) (by kernel_rfl) (by kernel_rfl) (by kernel_rfl) (by kernel_rfl) (by decide) ?htla1 ?hfra1 (Only.refl _ _) (fun _ _ _ h k => h.trans k (fun _ hx => .inl hx)) ?staba1 ?stepsa1 ?donea1
                                    case htla1 => simp only [List.drop_succ_cons, List.drop_zero]; rfl
                                    case hfra1 => intro vals; simp only [putAll, dstAt, Act.put, List.getElem?_toArray, List.getElem?_cons_zero, List.getElem?_cons_succ, Option.bind_some, List.setIfInBounds_toArray, List.set_cons_zero, List.set_cons_succ]; rfl
                                    case staba1 =>
                                      intro i v wa wb h
                                      try dsimp only
                                      split <;> first | exact id
                                    case stepsa1 =>
                                      refine ⟨?_, ?_, ?_, ?_, ?_, ?_, ?_, ?_, ?_, ?_, ?_, ?_, ?_, ?_, ?_, ?_, ?_, ?_, ?_, ?_, ?_, ?_, ?_, ?_, ?_, ?_, ?_, ?_, ?_, ?_, ?_, ?_, ?_, ?_, ?_, ?_, ?_, ?_, ?_, ?_, ?_, ?_, ?_, ?_, ?_, trivial⟩
                                      · intro vals wr hR hp K hK
                                        dsimp only at hK ⊢
                                        clear hp
                                        unfold RunsOp
                                        go_simp
                                        exact hK.out _ _ ⟨_, rfl, Only.refl _ _, rfl⟩
                                      · intro vals wr hR hp K hK
                                        dsimp only at hK ⊢
                                        obtain ⟨p0, -⟩ := hp
                                        replace p0 := p0 rfl
                                        dsimp only at p0
                                        rw [p0] at hK ⊢
                                        clear p0
                                        unfold RunsOp
                                        obtain ⟨k0, k1, k2, k3, k4, k5, k6, k7, k8, k9, k10, k11, k12, k13, kl⟩ := (hR.blk (Blk.drew HXE.out) (by simp)).facts14
                                        go_simp
                                        exact hK.out _ _ ⟨_, rfl, Only.refl _ _, rfl⟩
                                      · intro vals wr hR hp K hK
                                        dsimp only at hK ⊢
                                        clear hp
                                        unfold RunsOp
                                        go_simp
                                        exact hK.out _ _ ⟨_, rfl, Only.refl _ _, rfl⟩
                                      · intro vals wr hR hp K hK
                                        dsimp only at hK ⊢
                                        obtain ⟨p1, p2, -⟩ := hp
                                        replace p1 := p1 rfl
                                        replace p2 := p2 rfl
                                        dsimp only at p1 p2
                                        rw [p1, p2] at hK ⊢
                                        clear p1 p2
                                        unfold RunsOp
                                        go_simp
                                        exact hK.out _ _ ⟨_, rfl, Only.refl _ _, rfl⟩
                                      · intro vals wr hR hp K hK
                                        dsimp only at hK ⊢
                                        obtain ⟨p3, -⟩ := hp
                                        replace p3 := p3 rfl
                                        dsimp only at p3
                                        rw [p3] at hK ⊢
                                        clear p3
                                        unfold RunsOp
                                        go_simp
                                        exact hK.out _ _ ⟨_, rfl, Only.refl _ _, rfl⟩
                                      · intro vals wr hR hp K hK
                                        dsimp only at hK ⊢
                                        obtain ⟨p4, -⟩ := hp
                                        replace p4 := p4 rfl
                                        dsimp only at p4
                                        rw [p4] at hK ⊢
                                        clear p4
                                        unfold RunsOp
                                        have q0 := (hR.cell (p := ⟨ba, oa + kE * 7, none⟩) HCX.out.1 (by simp)).trans HCX.out.2.1
                                        go_simp
                                        exact hK.out _ _ ⟨_, rfl, Only.refl _ _, rfl⟩
                                      · intro vals wr hR hp K hK
                                        dsimp only at hK ⊢
                                        clear hp
                                        unfold RunsOp
                                        go_simp
                                        exact hK.out _ _ ⟨_, rfl, Only.refl _ _, rfl⟩
                                      · intro vals wr hR hp K hK
                                        dsimp only at hK ⊢
                                        obtain ⟨p6, -⟩ := hp
                                        replace p6 := p6 rfl
                                        dsimp only at p6
                                        rw [p6] at hK ⊢
                                        clear p6
                                        unfold RunsOp
                                        obtain ⟨k0, k1, k2, k3, k4, k5, k6, k7, k8, k9, k10, k11, k12, k13, kl⟩ := (hR.blk (Blk.drew HYE.out) (by simp)).facts14
                                        go_simp
                                        exact hK.out _ _ ⟨_, rfl, Only.refl _ _, rfl⟩
                                      · intro vals wr hR hp K hK
                                        dsimp only at hK ⊢
                                        clear hp
                                        unfold RunsOp
                                        go_simp
                                        exact hK.out _ _ ⟨_, rfl, Only.refl _ _, rfl⟩
                                      · intro vals wr hR hp K hK
                                        dsimp only at hK ⊢
                                        obtain ⟨p7, p8, -⟩ := hp
                                        replace p7 := p7 rfl
                                        replace p8 := p8 rfl
                                        dsimp only at p7 p8
                                        rw [p7, p8] at hK ⊢
                                        clear p7 p8
                                        unfold RunsOp
                                        go_simp
                                        exact hK.out _ _ ⟨_, rfl, Only.refl _ _, rfl⟩
                                      · intro vals wr hR hp K hK
                                        dsimp only at hK ⊢
                                        obtain ⟨p9, -⟩ := hp
                                        replace p9 := p9 rfl
                                        dsimp only at p9
                                        rw [p9] at hK ⊢
                                        clear p9
                                        unfold RunsOp
                                        go_simp
                                        exact hK.out _ _ ⟨_, rfl, Only.refl _ _, rfl⟩
                                      · intro vals wr hR hp K hK
                                        dsimp only at hK ⊢
                                        obtain ⟨p10, -⟩ := hp
                                        replace p10 := p10 rfl
                                        dsimp only at p10
                                        rw [p10] at hK ⊢
                                        clear p10
                                        unfold RunsOp
                                        have q0 := (hR.cell (p := ⟨bb, ob + kE * 7, none⟩) HCY.out.1 (by simp)).trans HCY.out.2.1
                                        go_simp
                                        exact hK.out _ _ ⟨_, rfl, Only.refl _ _, rfl⟩
                                      · intro vals wr hR hp K hK
                                        dsimp only at hK ⊢
                                        obtain ⟨p5, p11, -⟩ := hp
                                        replace p5 := p5 rfl
                                        replace p11 := p11 rfl
                                        dsimp only at p5 p11
                                        rw [p5, p11] at hK ⊢
                                        clear p5 p11
                                        unfold RunsOp
                                        have en : (up.toList == zp.toList) = false := by simp [EN.out]
                                        go_simp
                                        exact hK.out _ _ ⟨_, rfl, Only.refl _ _, rfl⟩
                                      · intro vals wr hR hp K hK
                                        dsimp only at hK ⊢
                                        obtain ⟨p12, -⟩ := hp
                                        replace p12 := p12 rfl
                                        dsimp only at p12
                                        rw [p12] at hK ⊢
                                        clear p12
                                        unfold RunsOp
                                        go_simp
                                        exact hK.out _ _ ⟨_, rfl, Only.refl _ _, rfl⟩
                                      · intro vals wr hR hp K hK
                                        dsimp only at hK ⊢
                                        obtain ⟨p13, -⟩ := hp
                                        replace p13 := p13 rfl
                                        dsimp only at p13
                                        rw [p13] at hK ⊢
                                        clear p13
                                        unfold RunsOp
                                        go_simp
                                        exact hK.out _ _ ⟨_, rfl, Only.refl _ _, trivial⟩
                                      · intro vals wr hR hp K hK
                                        dsimp only at hK ⊢
                                        obtain ⟨-, p13, -⟩ := hp
                                        replace p13 := p13 rfl
                                        dsimp only at p13
                                        rw [p13] at hK ⊢
                                        clear p13
                                        unfold RunsOp
                                        go_simp
                                        exact hK.out _ _ ⟨_, rfl, Only.refl _ _, trivial⟩
                                      · intro vals wr hR hp K hK
                                        dsimp only at hK ⊢
                                        obtain ⟨p13, -⟩ := hp
                                        replace p13 := p13 rfl
                                        dsimp only at p13
                                        rw [p13] at hK ⊢
                                        clear p13
                                        unfold RunsOp
                                        go_simp
                                        exact hK.out _ _ ⟨_, rfl, Only.refl _ _, trivial⟩
                                      · intro vals wr hR hp K hK
                                        dsimp only at hK ⊢
                                        obtain ⟨-, -, p13, -⟩ := hp
                                        replace p13 := p13 rfl
                                        dsimp only at p13
                                        rw [p13] at hK ⊢
                                        clear p13
                                        unfold RunsOp
                                        go_simp
                                        exact hK.out _ _ ⟨_, rfl, Only.refl _ _, trivial⟩
                                      · intro vals wr hR hp K hK
                                        dsimp only at hK ⊢
                                        obtain ⟨-, p13, -⟩ := hp
                                        replace p13 := p13 rfl
                                        dsimp only at p13
                                        rw [p13] at hK ⊢
                                        clear p13
                                        unfold RunsOp
                                        go_simp
                                        exact hK.out _ _ ⟨_, rfl, Only.refl _ _, trivial⟩
                                      · intro vals wr hR hp K hK
                                        dsimp only at hK ⊢
                                        obtain ⟨-, p13, -⟩ := hp
                                        replace p13 := p13 rfl
                                        dsimp only at p13
                                        rw [p13] at hK ⊢
                                        clear p13
                                        unfold RunsOp
                                        go_simp
                                        exact hK.out _ _ ⟨_, rfl, Only.refl _ _, trivial⟩
                                      · intro vals wr hR hp K hK
                                        dsimp only at hK ⊢
                                        obtain ⟨p13, -⟩ := hp
                                        replace p13 := p13 rfl
                                        dsimp only at p13
                                        rw [p13] at hK ⊢
                                        clear p13
                                        unfold RunsOp
                                        go_simp
                                        exact hK.out _ _ ⟨_, rfl, Only.refl _ _, trivial⟩
                                      · intro vals wr hR hp K hK
                                        dsimp only at hK ⊢
                                        obtain ⟨-, p13, -⟩ := hp
                                        replace p13 := p13 rfl
                                        dsimp only at p13
                                        rw [p13] at hK ⊢
                                        clear p13
                                        unfold RunsOp
                                        go_simp
                                        exact hK.out _ _ ⟨_, rfl, Only.refl _ _, trivial⟩
                                      · intro vals wr hR hp K hK
                                        dsimp only at hK ⊢
                                        obtain ⟨p13, -⟩ := hp
                                        replace p13 := p13 rfl
                                        dsimp only at p13
                                        rw [p13] at hK ⊢
                                        clear p13
                                        unfold RunsOp
                                        go_simp
                                        exact hK.out _ _ ⟨_, rfl, Only.refl _ _, trivial⟩
                                      · intro vals wr hR hp K hK
                                        dsimp only at hK ⊢
                                        obtain ⟨-, -, p13, -⟩ := hp
                                        replace p13 := p13 rfl
                                        dsimp only at p13
                                        rw [p13] at hK ⊢
                                        clear p13
                                        unfold RunsOp
                                        go_simp
                                        exact hK.out _ _ ⟨_, rfl, Only.refl _ _, trivial⟩
                                      · intro vals wr hR hp K hK
                                        dsimp only at hK ⊢
                                        obtain ⟨-, p13, -⟩ := hp
                                        replace p13 := p13 rfl
                                        dsimp only at p13
                                        rw [p13] at hK ⊢
                                        clear p13
                                        unfold RunsOp
                                        go_simp
                                        exact hK.out _ _ ⟨_, rfl, Only.refl _ _, trivial⟩
                                      · intro vals wr hR hp K hK
                                        dsimp only at hK ⊢
                                        obtain ⟨-, p13, -⟩ := hp
                                        replace p13 := p13 rfl
                                        dsimp only at p13
                                        rw [p13] at hK ⊢
                                        clear p13
                                        unfold RunsOp
                                        go_simp
                                        exact hK.out _ _ ⟨_, rfl, Only.refl _ _, trivial⟩
                                      · intro vals wr hR hp K hK
                                        dsimp only at hK ⊢
                                        obtain ⟨-, -, p13, -, -⟩ := hp
                                        replace p13 := p13 rfl
                                        dsimp only at p13
                                        rw [p13] at hK ⊢
                                        clear p13
                                        unfold RunsOp
                                        go_simp
                                        exact hK.out _ _ ⟨_, rfl, Only.refl _ _, trivial⟩
                                      · intro vals wr hR hp K hK
                                        dsimp only at hK ⊢
                                        obtain ⟨-, p13, -⟩ := hp
                                        replace p13 := p13 rfl
                                        dsimp only at p13
                                        rw [p13] at hK ⊢
                                        clear p13
                                        unfold RunsOp
                                        go_simp
                                        exact hK.out _ _ ⟨_, rfl, Only.refl _ _, trivial⟩
                                      · intro vals wr hR hp K hK
                                        dsimp only at hK ⊢
                                        obtain ⟨p13, -, -⟩ := hp
                                        replace p13 := p13 rfl
                                        dsimp only at p13
                                        rw [p13] at hK ⊢
                                        clear p13
                                        unfold RunsOp
                                        go_simp
                                        exact hK.out _ _ ⟨_, rfl, Only.refl _ _, rfl⟩
                                      · intro vals wr hR hp K hK
                                        dsimp only at hK ⊢
                                        obtain ⟨p28, -, -⟩ := hp
                                        replace p28 := p28 rfl
                                        dsimp only at p28
                                        rw [p28] at hK ⊢
                                        clear p28
                                        unfold RunsOp
                                        go_simp
                                        exact hK.out _ _ ⟨_, rfl, Only.refl _ _, rfl⟩
                                      · intro vals wr hR hp K hK
                                        dsimp only at hK ⊢
                                        obtain ⟨p29, -⟩ := hp
                                        replace p29 := p29 rfl
                                        dsimp only at p29
                                        rw [p29] at hK ⊢
                                        clear p29
                                        unfold RunsOp
                                        go_simp
                                        exact hK.out _ _ ⟨_, rfl, Only.refl _ _, trivial⟩
                                      · intro vals wr hR hp K hK
                                        dsimp only at hK ⊢
                                        obtain ⟨-, p29, -⟩ := hp
                                        replace p29 := p29 rfl
                                        dsimp only at p29
                                        rw [p29] at hK ⊢
                                        clear p29
                                        unfold RunsOp
                                        go_simp
                                        exact hK.out _ _ ⟨_, rfl, Only.refl _ _, trivial⟩
                                      · intro vals wr hR hp K hK
                                        dsimp only at hK ⊢
                                        obtain ⟨p29, -⟩ := hp
                                        replace p29 := p29 rfl
                                        dsimp only at p29
                                        rw [p29] at hK ⊢
                                        clear p29
                                        unfold RunsOp
                                        go_simp
                                        exact hK.out _ _ ⟨_, rfl, Only.refl _ _, trivial⟩
                                      · intro vals wr hR hp K hK
                                        dsimp only at hK ⊢
                                        obtain ⟨-, -, p29, -⟩ := hp
                                        replace p29 := p29 rfl
                                        dsimp only at p29
                                        rw [p29] at hK ⊢
                                        clear p29
                                        unfold RunsOp
                                        go_simp
                                        exact hK.out _ _ ⟨_, rfl, Only.refl _ _, trivial⟩
                                      · intro vals wr hR hp K hK
                                        dsimp only at hK ⊢
                                        obtain ⟨-, p29, -⟩ := hp
                                        replace p29 := p29 rfl
                                        dsimp only at p29
                                        rw [p29] at hK ⊢
                                        clear p29
                                        unfold RunsOp
                                        go_simp
                                        exact hK.out _ _ ⟨_, rfl, Only.refl _ _, trivial⟩
                                      · intro vals wr hR hp K hK
                                        dsimp only at hK ⊢
                                        obtain ⟨-, p29, -⟩ := hp
                                        replace p29 := p29 rfl
                                        dsimp only at p29
                                        rw [p29] at hK ⊢
                                        clear p29
                                        unfold RunsOp
                                        go_simp
                                        exact hK.out _ _ ⟨_, rfl, Only.refl _ _, trivial⟩
                                      · intro vals wr hR hp K hK
                                        dsimp only at hK ⊢
                                        obtain ⟨p29, -⟩ := hp
                                        replace p29 := p29 rfl
                                        dsimp only at p29
                                        rw [p29] at hK ⊢
                                        clear p29
                                        unfold RunsOp
                                        go_simp
                                        exact hK.out _ _ ⟨_, rfl, Only.refl _ _, trivial⟩
                                      · intro vals wr hR hp K hK
                                        dsimp only at hK ⊢
                                        obtain ⟨-, p29, -⟩ := hp
                                        replace p29 := p29 rfl
                                        dsimp only at p29
                                        rw [p29] at hK ⊢
                                        clear p29
                                        unfold RunsOp
                                        go_simp
                                        exact hK.out _ _ ⟨_, rfl, Only.refl _ _, trivial⟩
                                      · intro vals wr hR hp K hK
                                        dsimp only at hK ⊢
                                        obtain ⟨p29, -⟩ := hp
                                        replace p29 := p29 rfl
                                        dsimp only at p29
                                        rw [p29] at hK ⊢
                                        clear p29
                                        unfold RunsOp
                                        go_simp
                                        exact hK.out _ _ ⟨_, rfl, Only.refl _ _, trivial⟩
                                      · intro vals wr hR hp K hK
                                        dsimp only at hK ⊢
                                        obtain ⟨-, -, p29, -⟩ := hp
                                        replace p29 := p29 rfl
                                        dsimp only at p29
                                        rw [p29] at hK ⊢
                                        clear p29
                                        unfold RunsOp
                                        go_simp
                                        exact hK.out _ _ ⟨_, rfl, Only.refl _ _, trivial⟩
                                      · intro vals wr hR hp K hK
                                        dsimp only at hK ⊢
                                        obtain ⟨-, p29, -⟩ := hp
                                        replace p29 := p29 rfl
                                        dsimp only at p29
                                        rw [p29] at hK ⊢
                                        clear p29
                                        unfold RunsOp
                                        go_simp
                                        exact hK.out _ _ ⟨_, rfl, Only.refl _ _, trivial⟩
                                      · intro vals wr hR hp K hK
                                        dsimp only at hK ⊢
                                        obtain ⟨-, p29, -⟩ := hp
                                        replace p29 := p29 rfl
                                        dsimp only at p29
                                        rw [p29] at hK ⊢
                                        clear p29
                                        unfold RunsOp
                                        go_simp
                                        exact hK.out _ _ ⟨_, rfl, Only.refl _ _, trivial⟩
                                      · intro vals wr hR hp K hK
                                        dsimp only at hK ⊢
                                        obtain ⟨-, -, p29, -, -⟩ := hp
                                        replace p29 := p29 rfl
                                        dsimp only at p29
                                        rw [p29] at hK ⊢
                                        clear p29
                                        unfold RunsOp
                                        go_simp
                                        exact hK.out _ _ ⟨_, rfl, Only.refl _ _, trivial⟩
                                      · intro vals wr hR hp K hK
                                        dsimp only at hK ⊢
                                        obtain ⟨-, p29, -⟩ := hp
                                        replace p29 := p29 rfl
                                        dsimp only at p29
                                        rw [p29] at hK ⊢
                                        clear p29
                                        unfold RunsOp
                                        go_simp
                                        exact hK.out _ _ ⟨_, rfl, Only.refl _ _, trivial⟩
                                      · intro vals wr hR hp K hK
                                        dsimp only at hK ⊢
                                        obtain ⟨p29, -, -⟩ := hp
                                        replace p29 := p29 rfl
                                        dsimp only at p29
                                        rw [p29] at hK ⊢
                                        clear p29
                                        unfold RunsOp
                                        go_simp
                                        exact hK.out _ _ ⟨_, rfl, Only.refl _ _, rfl⟩
                                    case donea1 =>
                                      intro vals wd hR hF
                                      have f0 : vals 0 = .pointer (some ⟨w.heap.size, 6, none⟩) := hF 0 (by decide)
                                      have f1 : vals 1 = .slice (some ⟨ba, oa, none⟩) xemitsl.length xemitsc := hF 1 (by decide)
                                      have f2 : vals 2 = .int .i64 (kE : Int) := hF 2 (by decide)
                                      have f3 : vals 3 = .pointer (some ⟨ba, oa + kE * 7, none⟩) := hF 3 (by decide)
                                      have f4 : vals 4 = .pointer (some ⟨ba, oa + kE * 7, none⟩) := hF 4 (by decide)
                                      have f5 : vals 5 = .string up := hF 5 (by decide)
                                      have f6 : vals 6 = .pointer (some ⟨w.heap.size + 1, 6, none⟩) := hF 6 (by decide)
                                      have f7 : vals 7 = .slice (some ⟨bb, ob, none⟩) yemitsl.length yemitsc := hF 7 (by decide)
                                      have f8 : vals 8 = .int .i64 (kE : Int) := hF 8 (by decide)
                                      have f9 : vals 9 = .pointer (some ⟨bb, ob + kE * 7, none⟩) := hF 9 (by decide)
                                      have f10 : vals 10 = .pointer (some ⟨bb, ob + kE * 7, none⟩) := hF 10 (by decide)
                                      have f11 : vals 11 = .string zp := hF 11 (by decide)
                                      have f12 : vals 12 = .bool true := hF 12 (by decide)
                                      have f13 : vals 13 = .bool true := hF 13 (by decide)
                                      have f28 : vals 28 = .bool true := hF 28 (by decide)
                                      have f29 : vals 29 = .bool true := hF 29 (by decide)
                                      have f44 : vals 44 = .bool true := hF 44 (by decide)
                                      rw [f0, f1, f2, f3, f4, f5, f6, f7, f8, f9, f10, f11, f12, f13, f28, f29, f44]
                                      clear f0 f1 f2 f3 f4 f5 f6 f7 f8 f9 f10 f11 f12 f13 f28 f29 f44
                                      have HO5 := Lib.hid (HOr.out.trans ((Only.refl [] _).drew.trans hR (by simp)) (by simp))
                                      clear hR hF
                                      gi_wp2_with (fail)
                                      go_wp2_with (fail)
                                      go_ret
                                      exact ⟨by rw [show qE = false from HBAD.out (HPE.out.trans rfl)]; simp, HOPE.out.trans HO5.out (by simp)⟩
                                · obtain rfl : kE = xemitsl.length := by omega
                                  have iz : ¬ (xemitsl.length : Int) < (xemitsl.length : Int) := by omega
                                  have hq : qE = true := by rw [← HQE.out]; have h := HP.out; rw [List.take_length, List.take_of_length_le (by have := HLE.out; omega)] at h; exact h
                                  subst hq
                                  go_wp2_with (fail)
                                  clear iz hlt hk
                                  clear bx6 by6 bxl byl
                                  clear HP HOr HXPE HYPE HOPE HAE HBE
                                  have HOPP := HOWE
                                  have HXPP := HXE
                                  have HYPP := HYE
                                  go_loopw [6] (fun i wr => ∃ k : Nat, i = .int .i64 k ∧ k ≤ xpartsl.length ∧ Hid (alikeG Pa.same (xpartsl.take k) (ypartsl.take k) = true) ∧ Hid (Only [] wqE wr)) (fun i _ => xpartsl.length - (intOf i).toNat)
                                  case atStart => exact ⟨0, rfl, Nat.zero_le _, Lib.hid (by simp [alikeG]), Lib.hid (Only.refl _ _)⟩
                                  case round =>
                                    obtain ⟨kP, rfl, hk, HP, HOr⟩ := hrel
                                    obtain ⟨wqP, hwq⟩ : ∃ wq : World, wq = wr := ⟨_, rfl⟩
                                    subst hwq
                                    have HXP := Lib.hid (HOr.out.blk HXPP.out (by simp))
                                    have HYP := Lib.hid (HOr.out.blk HYPP.out (by simp))
                                    have HOWP := Lib.hid (HOPP.out.trans HOr.out (by simp))
                                    obtain ⟨bx0, bx1, bx2, bx3, bx4, bx5, bx6, bx7, bx8, bx9, bx10, bx11, bx12, bx13, bxl⟩ := HXP.out.facts14
                                    obtain ⟨by0, by1, by2, by3, by4, by5, by6, by7, by8, by9, by10, by11, by12, by13, byl⟩ := HYP.out.facts14
                                    clear bx0 by0 bx1 by1 bx2 by2 bx3 by3 bx4 by4 bx5 by5 bx6 by6 bx7 by7 bx8 by8 bx9 by9 bx10 by10 bx12 by12 bx13 by13
                                    by_cases hlt : kP < xpartsl.length
                                    · obtain ⟨ue, hx⟩ : ∃ e, xpartsl[kP]? = some e := ⟨_, List.getElem?_eq_getElem hlt⟩
                                      obtain ⟨ze, hy⟩ : ∃ e, ypartsl[kP]? = some e := ⟨_, List.getElem?_eq_getElem (by have := HLP.out; omega)⟩
                                      have hLx := Pa.Li.keep _ _ _ (HAP.out.sub ue (List.mem_of_getElem? hx)) HOWP.out
                                      have hLy := Pa.Li.keep _ _ _ (HBP.out.sub ze (List.mem_of_getElem? hy)) HOWP.out
                                      have HTK := Lib.hid (alikeG_take (p := Pa.same) HLP.out hx hy)
                                      have HBAD := Lib.hid (fun h => HQP.out.symm.trans (alikeG_bad (p := Pa.same) hx hy h))
                                      have hrx := (HAP.out.row kP _ hx).keep HOWP.out
                                      have hry := (HBP.out.row kP _ hy).keep HOWP.out
                                      have hki : (0 : Int) ≤ (kP : Int) := by omega
                                      have hkx : (kP : Int) < (xpartsl.length : Int) := by omega
                                      have hky : (kP : Int) < (ypartsl.length : Int) := by have := HLP.out; omega
                                      clear hx hy
                                      obtain ⟨un, um⟩ := ue
                                      obtain ⟨zn, zm⟩ := ze
                                      obtain ⟨ba, oa, hAe, hba, c0, c1⟩ := Pa.at_cells hrx
                                      obtain ⟨bb, ob, hBe, hbb, d0, d1⟩ := Pa.at_cells hry
                                      have HCX := Lib.hid (show ba < wqP.heap.size ∧ wqP.cell? ⟨ba, oa + kP * 2, none⟩ = some (.string un) ∧ wqP.cell? ⟨ba, oa + kP * 2 + 1, none⟩ = some (.string um) from ⟨hba, c0, c1⟩)
                                      have HCY := Lib.hid (show bb < wqP.heap.size ∧ wqP.cell? ⟨bb, ob + kP * 2, none⟩ = some (.string zn) ∧ wqP.cell? ⟨bb, ob + kP * 2 + 1, none⟩ = some (.string zm) from ⟨hbb, d0, d1⟩)
                                      subst hAe
                                      subst hBe
                                      clear hrx hry hba hbb c0 d0 c1 d1
                                      have hEQ := neq_Pa un um zn zm
                                      obtain ⟨pe, hpe⟩ : ∃ pe, Pa.same (.mk un um) (.mk zn zm) = pe := ⟨_, rfl⟩
                                      rw [hpe] at hEQ
                                      have HPE := Lib.hid hpe
                                      have EQ := Lib.hid hEQ
                                      clear hEQ hpe hLx hLy
                                      go_wp2_with (fail)
                                      clear bx11 by11 bxl byl
                                      refine (wpIn_wide (n := 9)).1 ?_
                                      refine wpIn_region_relR 11 (Only []) (fr := ?frbP) (tl := ?tlbP) (fun iq v wv => match iq with
                                        | 0 => v = .pointer (some ⟨w.heap.size, 11, none⟩)
                                        | 1 => v = .slice (some ⟨ba, oa, none⟩) xpartsl.length xpartsc
                                        | 2 => v = .int .i64 (kP : Int)
                                        | 3 => v = .pointer (some ⟨ba, oa + kP * 2, none⟩)
                                        | 4 => v = .agg #[.string un, .string um]
                                        | 5 => v = .pointer (some ⟨w.heap.size + 1, 11, none⟩)
                                        | 6 => v = .slice (some ⟨bb, ob, none⟩) ypartsl.length ypartsc
                                        | 7 => v = .int .i64 (kP : Int)
                                        | 8 => v = .pointer (some ⟨bb, ob + kP * 2, none⟩)
                                        | 9 => v = .agg #[.string zn, .string zm]
                                        | 10 => v = .bool !pe
                                        | _ => True) (.inl rfl) (by kernel_rfl) (by kernel_rfl) (by kernel_rfl) (by kernel_rfl) (by kernel_rfl) (by kernel_rfl) (by decide) ?htlbP ?hfrbP (Only.refl _ _) (fun _ _ _ h k => h.trans k (fun _ hx => .inl hx)) ?stabbP ?stepsbP ?donebP
                                      case htlbP => simp only [List.drop_succ_cons, List.drop_zero]; rfl
                                      case hfrbP => intro vals; simp only [putAll, dstAt, Act.put, List.getElem?_toArray, List.getElem?_cons_zero, List.getElem?_cons_succ, Option.bind_some, List.setIfInBounds_toArray, List.set_cons_zero, List.set_cons_succ]; rfl
                                      case stabbP =>
                                        intro i v wa wb h
                                        try dsimp only
                                        split <;> first | exact id
                                      case stepsbP =>
                                        refine ⟨?_, ?_, ?_, ?_, ?_, ?_, ?_, ?_, ?_, ?_, ?_, trivial⟩
                                        · intro vals wr hR hp K hK
                                          dsimp only at hK ⊢
                                          clear hp
                                          unfold RunsOp
                                          go_simp
                                          exact hK.out _ _ ⟨_, rfl, Only.refl _ _, rfl⟩
                                        · intro vals wr hR hp K hK
                                          dsimp only at hK ⊢
                                          obtain ⟨p0, -⟩ := hp
                                          replace p0 := p0 rfl
                                          dsimp only at p0
                                          rw [p0] at hK ⊢
                                          clear p0
                                          unfold RunsOp
                                          obtain ⟨k0, k1, k2, k3, k4, k5, k6, k7, k8, k9, k10, k11, k12, k13, kl⟩ := (hR.blk (Blk.drew HXP.out) (by simp)).facts14
                                          go_simp
                                          exact hK.out _ _ ⟨_, rfl, Only.refl _ _, rfl⟩
                                        · intro vals wr hR hp K hK
                                          dsimp only at hK ⊢
                                          clear hp
                                          unfold RunsOp
                                          go_simp
                                          exact hK.out _ _ ⟨_, rfl, Only.refl _ _, rfl⟩
                                        · intro vals wr hR hp K hK
                                          dsimp only at hK ⊢
                                          obtain ⟨p1, p2, -⟩ := hp
                                          replace p1 := p1 rfl
                                          replace p2 := p2 rfl
                                          dsimp only at p1 p2
                                          rw [p1, p2] at hK ⊢
                                          clear p1 p2
                                          unfold RunsOp
                                          go_simp
                                          exact hK.out _ _ ⟨_, rfl, Only.refl _ _, rfl⟩
                                        · intro vals wr hR hp K hK
                                          dsimp only at hK ⊢
                                          obtain ⟨p3, -⟩ := hp
                                          replace p3 := p3 rfl
                                          dsimp only at p3
                                          rw [p3] at hK ⊢
                                          clear p3
                                          unfold RunsOp
                                          have q0 := (hR.cell (p := ⟨ba, oa + kP * 2, none⟩) HCX.out.1 (by simp)).trans HCX.out.2.1
                                          have q1 := (hR.cell (p := ⟨ba, oa + kP * 2 + 1, none⟩) HCX.out.1 (by simp)).trans HCX.out.2.2
                                          go_simp
                                          exact hK.out _ _ ⟨_, rfl, Only.refl _ _, rfl⟩
                                        · intro vals wr hR hp K hK
                                          dsimp only at hK ⊢
                                          clear hp
                                          unfold RunsOp
                                          go_simp
                                          exact hK.out _ _ ⟨_, rfl, Only.refl _ _, rfl⟩
                                        · intro vals wr hR hp K hK
                                          dsimp only at hK ⊢
                                          obtain ⟨p5, -⟩ := hp
                                          replace p5 := p5 rfl
                                          dsimp only at p5
                                          rw [p5] at hK ⊢
                                          clear p5
                                          unfold RunsOp
                                          obtain ⟨k0, k1, k2, k3, k4, k5, k6, k7, k8, k9, k10, k11, k12, k13, kl⟩ := (hR.blk (Blk.drew HYP.out) (by simp)).facts14
                                          go_simp
                                          exact hK.out _ _ ⟨_, rfl, Only.refl _ _, rfl⟩
                                        · intro vals wr hR hp K hK
                                          dsimp only at hK ⊢
                                          clear hp
                                          unfold RunsOp
                                          go_simp
                                          exact hK.out _ _ ⟨_, rfl, Only.refl _ _, rfl⟩
                                        · intro vals wr hR hp K hK
                                          dsimp only at hK ⊢
                                          obtain ⟨p6, p7, -⟩ := hp
                                          replace p6 := p6 rfl
                                          replace p7 := p7 rfl
                                          dsimp only at p6 p7
                                          rw [p6, p7] at hK ⊢
                                          clear p6 p7
                                          unfold RunsOp
                                          go_simp
                                          exact hK.out _ _ ⟨_, rfl, Only.refl _ _, rfl⟩
                                        · intro vals wr hR hp K hK
                                          dsimp only at hK ⊢
                                          obtain ⟨p8, -⟩ := hp
                                          replace p8 := p8 rfl
                                          dsimp only at p8
                                          rw [p8] at hK ⊢
                                          clear p8
                                          unfold RunsOp
                                          have q0 := (hR.cell (p := ⟨bb, ob + kP * 2, none⟩) HCY.out.1 (by simp)).trans HCY.out.2.1
                                          have q1 := (hR.cell (p := ⟨bb, ob + kP * 2 + 1, none⟩) HCY.out.1 (by simp)).trans HCY.out.2.2
                                          go_simp
                                          exact hK.out _ _ ⟨_, rfl, Only.refl _ _, rfl⟩
                                        · intro vals wr hR hp K hK
                                          dsimp only at hK ⊢
                                          obtain ⟨p4, p9, -⟩ := hp
                                          replace p4 := p4 rfl
                                          replace p9 := p9 rfl
                                          dsimp only at p4 p9
                                          rw [p4, p9] at hK ⊢
                                          clear p4 p9
                                          unfold RunsOp
                                          have en := EQ.out
                                          go_simp
                                          exact hK.out _ _ ⟨_, rfl, Only.refl _ _, rfl⟩
                                      case donebP =>
                                        intro vals wd hR hF
                                        have f0 : vals 0 = .pointer (some ⟨w.heap.size, 11, none⟩) := hF 0 (by decide)
                                        have f1 : vals 1 = .slice (some ⟨ba, oa, none⟩) xpartsl.length xpartsc := hF 1 (by decide)
                                        have f2 : vals 2 = .int .i64 (kP : Int) := hF 2 (by decide)
                                        have f3 : vals 3 = .pointer (some ⟨ba, oa + kP * 2, none⟩) := hF 3 (by decide)
                                        have f4 : vals 4 = .agg #[.string un, .string um] := hF 4 (by decide)
                                        have f5 : vals 5 = .pointer (some ⟨w.heap.size + 1, 11, none⟩) := hF 5 (by decide)
                                        have f6 : vals 6 = .slice (some ⟨bb, ob, none⟩) ypartsl.length ypartsc := hF 6 (by decide)
                                        have f7 : vals 7 = .int .i64 (kP : Int) := hF 7 (by decide)
                                        have f8 : vals 8 = .pointer (some ⟨bb, ob + kP * 2, none⟩) := hF 8 (by decide)
                                        have f9 : vals 9 = .agg #[.string zn, .string zm] := hF 9 (by decide)
                                        have f10 : vals 10 = .bool !pe := hF 10 (by decide)
                                        rw [f0, f1, f2, f3, f4, f5, f6, f7, f8, f9, f10]
                                        clear f0 f1 f2 f3 f4 f5 f6 f7 f8 f9 f10
                                        have HO5 := Lib.hid (HOr.out.trans ((Only.refl [] _).drew.trans hR (by simp)) (by simp))
                                        clear hR hF
                                        gi_wp2_with (fail)
                                        cases pe
                                        · go_wp2_with (fail)
                                          go_ret
                                          exact ⟨by rw [show qP = false from HBAD.out (HPE.out.trans rfl)]; simp, HOPP.out.trans HO5.out (by simp)⟩
                                        · go_wp2_with (fail)
                                          go_roundw
                                          case rel => exact ⟨kP + 1, by go_num, by omega, Lib.hid (by rw [HTK.out, HP.out, HPE.out]; rfl), HO5⟩
                                          case measure => simp [intOf] <;> omega
                                    · obtain rfl : kP = xpartsl.length := by omega
                                      have iz : ¬ (xpartsl.length : Int) < (xpartsl.length : Int) := by omega
                                      have hq : qP = true := by rw [← HQP.out]; have h := HP.out; rw [List.take_length, List.take_of_length_le (by have := HLP.out; omega)] at h; exact h
                                      subst hq
                                      go_wp2_with (fail)
                                      clear iz hlt hk
                                      clear bx11 by11 bxl byl
                                      clear HP HOr HXPP HYPP HOPP HAP HBP
                                      have HOPL := HOWP
                                      have HXPL := HXP
                                      have HYPL := HYP
                                      go_loopw [7] (fun i wr => ∃ k : Nat, i = .int .i64 k ∧ k ≤ xlinksl.length ∧ Hid (alikeG Lk.same (xlinksl.take k) (ylinksl.take k) = true) ∧ Hid (Only [] wqP wr)) (fun i _ => xlinksl.length - (intOf i).toNat)
                                      case atStart => exact ⟨0, rfl, Nat.zero_le _, Lib.hid (by simp [alikeG]), Lib.hid (Only.refl _ _)⟩
                                      case round =>
                                        obtain ⟨kL, rfl, hk, HP, HOr⟩ := hrel
                                        obtain ⟨wqL, hwq⟩ : ∃ wq : World, wq = wr := ⟨_, rfl⟩
                                        subst hwq
                                        have HXL := Lib.hid (HOr.out.blk HXPL.out (by simp))
                                        have HYL := Lib.hid (HOr.out.blk HYPL.out (by simp))
                                        have HOWL := Lib.hid (HOPL.out.trans HOr.out (by simp))
                                        obtain ⟨bx0, bx1, bx2, bx3, bx4, bx5, bx6, bx7, bx8, bx9, bx10, bx11, bx12, bx13, bxl⟩ := HXL.out.facts14
                                        obtain ⟨by0, by1, by2, by3, by4, by5, by6, by7, by8, by9, by10, by11, by12, by13, byl⟩ := HYL.out.facts14
                                        clear bx0 by0 bx1 by1 bx2 by2 bx3 by3 bx4 by4 bx5 by5 bx6 by6 bx7 by7 bx8 by8 bx9 by9 bx10 by10 bx11 by11 bx13 by13
                                        by_cases hlt : kL < xlinksl.length
                                        · obtain ⟨ue, hx⟩ : ∃ e, xlinksl[kL]? = some e := ⟨_, List.getElem?_eq_getElem hlt⟩
                                          obtain ⟨ze, hy⟩ : ∃ e, ylinksl[kL]? = some e := ⟨_, List.getElem?_eq_getElem (by have := HLL.out; omega)⟩
                                          have hLx := Lk.Li.keep _ _ _ (HAL.out.sub ue (List.mem_of_getElem? hx)) HOWL.out
                                          have hLy := Lk.Li.keep _ _ _ (HBL.out.sub ze (List.mem_of_getElem? hy)) HOWL.out
                                          have HTK := Lib.hid (alikeG_take (p := Lk.same) HLL.out hx hy)
                                          have HBAD := Lib.hid (fun h => HQL.out.symm.trans (alikeG_bad (p := Lk.same) hx hy h))
                                          have hrx := (HAL.out.row kL _ hx).keep HOWL.out
                                          have hry := (HBL.out.row kL _ hy).keep HOWL.out
                                          have hki : (0 : Int) ≤ (kL : Int) := by omega
                                          have hkx : (kL : Int) < (xlinksl.length : Int) := by omega
                                          have hky : (kL : Int) < (ylinksl.length : Int) := by have := HLL.out; omega
                                          clear hx hy
                                          obtain ⟨ua, ub, uc, ud⟩ := ue
                                          obtain ⟨za, zb, zc, zd⟩ := ze
                                          obtain ⟨ba, oa, hAe, hba, c0, c1, c2, c3⟩ := Lk.at_cells hrx
                                          obtain ⟨bb, ob, hBe, hbb, d0, d1, d2, d3⟩ := Lk.at_cells hry
                                          have HCX := Lib.hid (show ba < wqL.heap.size ∧ wqL.cell? ⟨ba, oa + kL * 4, none⟩ = some (.string ua) ∧ wqL.cell? ⟨ba, oa + kL * 4 + 1, none⟩ = some (.string ub) ∧ wqL.cell? ⟨ba, oa + kL * 4 + 2, none⟩ = some (.string uc) ∧ wqL.cell? ⟨ba, oa + kL * 4 + 3, none⟩ = some (.string ud) from ⟨hba, c0, c1, c2, c3⟩)
                                          have HCY := Lib.hid (show bb < wqL.heap.size ∧ wqL.cell? ⟨bb, ob + kL * 4, none⟩ = some (.string za) ∧ wqL.cell? ⟨bb, ob + kL * 4 + 1, none⟩ = some (.string zb) ∧ wqL.cell? ⟨bb, ob + kL * 4 + 2, none⟩ = some (.string zc) ∧ wqL.cell? ⟨bb, ob + kL * 4 + 3, none⟩ = some (.string zd) from ⟨hbb, d0, d1, d2, d3⟩)
                                          subst hAe
                                          subst hBe
                                          clear hrx hry hba hbb c0 d0 c1 d1 c2 d2 c3 d3
                                          have hEQ := neq_Lk ua ub uc ud za zb zc zd
                                          obtain ⟨pe, hpe⟩ : ∃ pe, Lk.same (.mk ua ub uc ud) (.mk za zb zc zd) = pe := ⟨_, rfl⟩
                                          rw [hpe] at hEQ
                                          have HPE := Lib.hid hpe
                                          have EQ := Lib.hid hEQ
                                          clear hEQ hpe hLx hLy
                                          go_wp2_with (fail)
                                          clear bx12 by12 bxl byl
                                          refine (wpIn_wide (n := 9)).1 ?_
                                          refine wpIn_region_relR 11 (Only []) (fr := ?frbL) (tl := ?tlbL) (fun iq v wv => match iq with
                                            | 0 => v = .pointer (some ⟨w.heap.size, 12, none⟩)
                                            | 1 => v = .slice (some ⟨ba, oa, none⟩) xlinksl.length xlinksc
                                            | 2 => v = .int .i64 (kL : Int)
                                            | 3 => v = .pointer (some ⟨ba, oa + kL * 4, none⟩)
                                            | 4 => v = .agg #[.string ua, .string ub, .string uc, .string ud]
                                            | 5 => v = .pointer (some ⟨w.heap.size + 1, 12, none⟩)
                                            | 6 => v = .slice (some ⟨bb, ob, none⟩) ylinksl.length ylinksc
                                            | 7 => v = .int .i64 (kL : Int)
                                            | 8 => v = .pointer (some ⟨bb, ob + kL * 4, none⟩)
                                            | 9 => v = .agg #[.string za, .string zb, .string zc, .string zd]
                                            | 10 => v = .bool !pe
                                            | _ => True) (.inl rfl) (by kernel_rfl) (by kernel_rfl) (by kernel_rfl) (by kernel_rfl) (by kernel_rfl) (by kernel_rfl) (by decide) ?htlbL ?hfrbL (Only.refl _ _) (fun _ _ _ h k => h.trans k (fun _ hx => .inl hx)) ?stabbL ?stepsbL ?donebL
                                          case htlbL => simp only [List.drop_succ_cons, List.drop_zero]; rfl
                                          case hfrbL => intro vals; simp only [putAll, dstAt, Act.put, List.getElem?_toArray, List.getElem?_cons_zero, List.getElem?_cons_succ, Option.bind_some, List.setIfInBounds_toArray, List.set_cons_zero, List.set_cons_succ]; rfl
                                          case stabbL =>
                                            intro i v wa wb h
                                            try dsimp only
                                            split <;> first | exact id
                                          case stepsbL =>
                                            refine ⟨?_, ?_, ?_, ?_, ?_, ?_, ?_, ?_, ?_, ?_, ?_, trivial⟩
                                            · intro vals wr hR hp K hK
                                              dsimp only at hK ⊢
                                              clear hp
                                              unfold RunsOp
                                              go_simp
                                              exact hK.out _ _ ⟨_, rfl, Only.refl _ _, rfl⟩
                                            · intro vals wr hR hp K hK
                                              dsimp only at hK ⊢
                                              obtain ⟨p0, -⟩ := hp
                                              replace p0 := p0 rfl
                                              dsimp only at p0
                                              rw [p0] at hK ⊢
                                              clear p0
                                              unfold RunsOp
                                              obtain ⟨k0, k1, k2, k3, k4, k5, k6, k7, k8, k9, k10, k11, k12, k13, kl⟩ := (hR.blk (Blk.drew HXL.out) (by simp)).facts14
                                              go_simp
                                              exact hK.out _ _ ⟨_, rfl, Only.refl _ _, rfl⟩
                                            · intro vals wr hR hp K hK
                                              dsimp only at hK ⊢
                                              clear hp
                                              unfold RunsOp
                                              go_simp
                                              exact hK.out _ _ ⟨_, rfl, Only.refl _ _, rfl⟩
                                            · intro vals wr hR hp K hK
                                              dsimp only at hK ⊢
                                              obtain ⟨p1, p2, -⟩ := hp
                                              replace p1 := p1 rfl
                                              replace p2 := p2 rfl
                                              dsimp only at p1 p2
                                              rw [p1, p2] at hK ⊢
                                              clear p1 p2
                                              unfold RunsOp
                                              go_simp
                                              exact hK.out _ _ ⟨_, rfl, Only.refl _ _, rfl⟩
                                            · intro vals wr hR hp K hK
                                              dsimp only at hK ⊢
                                              obtain ⟨p3, -⟩ := hp
                                              replace p3 := p3 rfl
                                              dsimp only at p3
                                              rw [p3] at hK ⊢
                                              clear p3
                                              unfold RunsOp
                                              have q0 := (hR.cell (p := ⟨ba, oa + kL * 4, none⟩) HCX.out.1 (by simp)).trans HCX.out.2.1
                                              have q1 := (hR.cell (p := ⟨ba, oa + kL * 4 + 1, none⟩) HCX.out.1 (by simp)).trans HCX.out.2.2.1
                                              have q2 := (hR.cell (p := ⟨ba, oa + kL * 4 + 2, none⟩) HCX.out.1 (by simp)).trans HCX.out.2.2.2.1
                                              have q3 := (hR.cell (p := ⟨ba, oa + kL * 4 + 3, none⟩) HCX.out.1 (by simp)).trans HCX.out.2.2.2.2
                                              go_simp
                                              exact hK.out _ _ ⟨_, rfl, Only.refl _ _, rfl⟩
                                            · intro vals wr hR hp K hK
                                              dsimp only at hK ⊢
                                              clear hp
                                              unfold RunsOp
                                              go_simp
                                              exact hK.out _ _ ⟨_, rfl, Only.refl _ _, rfl⟩
                                            · intro vals wr hR hp K hK
                                              dsimp only at hK ⊢
                                              obtain ⟨p5, -⟩ := hp
                                              replace p5 := p5 rfl
                                              dsimp only at p5
                                              rw [p5] at hK ⊢
                                              clear p5
                                              unfold RunsOp
                                              obtain ⟨k0, k1, k2, k3, k4, k5, k6, k7, k8, k9, k10, k11, k12, k13, kl⟩ := (hR.blk (Blk.drew HYL.out) (by simp)).facts14
                                              go_simp
                                              exact hK.out _ _ ⟨_, rfl, Only.refl _ _, rfl⟩
                                            · intro vals wr hR hp K hK
                                              dsimp only at hK ⊢
                                              clear hp
                                              unfold RunsOp
                                              go_simp
                                              exact hK.out _ _ ⟨_, rfl, Only.refl _ _, rfl⟩
                                            · intro vals wr hR hp K hK
                                              dsimp only at hK ⊢
                                              obtain ⟨p6, p7, -⟩ := hp
                                              replace p6 := p6 rfl
                                              replace p7 := p7 rfl
                                              dsimp only at p6 p7
                                              rw [p6, p7] at hK ⊢
                                              clear p6 p7
                                              unfold RunsOp
                                              go_simp
                                              exact hK.out _ _ ⟨_, rfl, Only.refl _ _, rfl⟩
                                            · intro vals wr hR hp K hK
                                              dsimp only at hK ⊢
                                              obtain ⟨p8, -⟩ := hp
                                              replace p8 := p8 rfl
                                              dsimp only at p8
                                              rw [p8] at hK ⊢
                                              clear p8
                                              unfold RunsOp
                                              have q0 := (hR.cell (p := ⟨bb, ob + kL * 4, none⟩) HCY.out.1 (by simp)).trans HCY.out.2.1
                                              have q1 := (hR.cell (p := ⟨bb, ob + kL * 4 + 1, none⟩) HCY.out.1 (by simp)).trans HCY.out.2.2.1
                                              have q2 := (hR.cell (p := ⟨bb, ob + kL * 4 + 2, none⟩) HCY.out.1 (by simp)).trans HCY.out.2.2.2.1
                                              have q3 := (hR.cell (p := ⟨bb, ob + kL * 4 + 3, none⟩) HCY.out.1 (by simp)).trans HCY.out.2.2.2.2
                                              go_simp
                                              exact hK.out _ _ ⟨_, rfl, Only.refl _ _, rfl⟩
                                            · intro vals wr hR hp K hK
                                              dsimp only at hK ⊢
                                              obtain ⟨p4, p9, -⟩ := hp
                                              replace p4 := p4 rfl
                                              replace p9 := p9 rfl
                                              dsimp only at p4 p9
                                              rw [p4, p9] at hK ⊢
                                              clear p4 p9
                                              unfold RunsOp
                                              have en := EQ.out
                                              go_simp
                                              exact hK.out _ _ ⟨_, rfl, Only.refl _ _, rfl⟩
                                          case donebL =>
                                            intro vals wd hR hF
                                            have f0 : vals 0 = .pointer (some ⟨w.heap.size, 12, none⟩) := hF 0 (by decide)
                                            have f1 : vals 1 = .slice (some ⟨ba, oa, none⟩) xlinksl.length xlinksc := hF 1 (by decide)
                                            have f2 : vals 2 = .int .i64 (kL : Int) := hF 2 (by decide)
                                            have f3 : vals 3 = .pointer (some ⟨ba, oa + kL * 4, none⟩) := hF 3 (by decide)
                                            have f4 : vals 4 = .agg #[.string ua, .string ub, .string uc, .string ud] := hF 4 (by decide)
                                            have f5 : vals 5 = .pointer (some ⟨w.heap.size + 1, 12, none⟩) := hF 5 (by decide)
                                            have f6 : vals 6 = .slice (some ⟨bb, ob, none⟩) ylinksl.length ylinksc := hF 6 (by decide)
                                            have f7 : vals 7 = .int .i64 (kL : Int) := hF 7 (by decide)
                                            have f8 : vals 8 = .pointer (some ⟨bb, ob + kL * 4, none⟩) := hF 8 (by decide)
                                            have f9 : vals 9 = .agg #[.string za, .string zb, .string zc, .string zd] := hF 9 (by decide)
                                            have f10 : vals 10 = .bool !pe := hF 10 (by decide)
                                            rw [f0, f1, f2, f3, f4, f5, f6, f7, f8, f9, f10]
                                            clear f0 f1 f2 f3 f4 f5 f6 f7 f8 f9 f10
                                            have HO5 := Lib.hid (HOr.out.trans ((Only.refl [] _).drew.trans hR (by simp)) (by simp))
                                            clear hR hF
                                            gi_wp2_with (fail)
                                            cases pe
                                            · go_wp2_with (fail)
                                              go_ret
                                              exact ⟨by rw [show qL = false from HBAD.out (HPE.out.trans rfl)]; simp, HOPL.out.trans HO5.out (by simp)⟩
                                            · go_wp2_with (fail)
                                              go_roundw
                                              case rel => exact ⟨kL + 1, by go_num, by omega, Lib.hid (by rw [HTK.out, HP.out, HPE.out]; rfl), HO5⟩
                                              case measure => simp [intOf] <;> omega
                                        · obtain rfl : kL = xlinksl.length := by omega
                                          have iz : ¬ (xlinksl.length : Int) < (xlinksl.length : Int) := by omega
                                          have hq : qL = true := by rw [← HQL.out]; have h := HP.out; rw [List.take_length, List.take_of_length_le (by have := HLL.out; omega)] at h; exact h
                                          subst hq
                                          go_wp2_with (fail)
                                          clear iz hlt hk
                                          clear bx12 by12 bxl byl
                                          clear HP HOr HXPL HYPL HOPL HAL HBL
                                          have HOPR := HOWL
                                          have HXPR := HXL
                                          have HYPR := HYL
                                          go_loopw [8, 9, 10, 11] (fun i a b j wr => ∃ (k : Nat) (a9 b9 j9 : Value), i = .int .i64 k ∧ a = a9 ∧ b = b9 ∧ j = j9 ∧ k ≤ xrulesl.length ∧ Hid (alikeG Ru.same (xrulesl.take k) (yrulesl.take k) = true) ∧ Hid (Only [] wqL wr)) (fun i _ _ _ _ => xrulesl.length - (intOf i).toNat)
                                          case atStart => exact ⟨0, _, _, _, rfl, rfl, rfl, rfl, Nat.zero_le _, Lib.hid (by simp [alikeG]), Lib.hid (Only.refl _ _)⟩
                                          case round =>
                                            obtain ⟨kR, a9, b9, j9, rfl, rfl, rfl, rfl, hk, HP, HOr⟩ := hrel
                                            obtain ⟨wqR, hwq⟩ : ∃ wq : World, wq = wr := ⟨_, rfl⟩
                                            subst hwq
                                            have HXR := Lib.hid (HOr.out.blk HXPR.out (by simp))
                                            have HYR := Lib.hid (HOr.out.blk HYPR.out (by simp))
                                            have HOWR := Lib.hid (HOPR.out.trans HOr.out (by simp))
                                            obtain ⟨bx0, bx1, bx2, bx3, bx4, bx5, bx6, bx7, bx8, bx9, bx10, bx11, bx12, bx13, bxl⟩ := HXR.out.facts14
                                            obtain ⟨by0, by1, by2, by3, by4, by5, by6, by7, by8, by9, by10, by11, by12, by13, byl⟩ := HYR.out.facts14
                                            clear bx0 by0 bx1 by1 bx2 by2 bx3 by3 bx4 by4 bx5 by5 bx6 by6 bx7 by7 bx8 by8 bx9 by9 bx10 by10 bx11 by11 bx12 by12
                                            by_cases hlt : kR < xrulesl.length
                                            · obtain ⟨ue, hx⟩ : ∃ e, xrulesl[kR]? = some e := ⟨_, List.getElem?_eq_getElem hlt⟩
                                              obtain ⟨ze, hy⟩ : ∃ e, yrulesl[kR]? = some e := ⟨_, List.getElem?_eq_getElem (by have := HLR.out; omega)⟩
                                              have hLx := Ru.Li.keep _ _ _ (HAR.out.sub ue (List.mem_of_getElem? hx)) HOWR.out
                                              have hLy := Ru.Li.keep _ _ _ (HBR.out.sub ze (List.mem_of_getElem? hy)) HOWR.out
                                              have HTK := Lib.hid (alikeG_take (p := Ru.same) HLR.out hx hy)
                                              have HBAD := Lib.hid (fun h => HQR.out.symm.trans (alikeG_bad (p := Ru.same) hx hy h))
                                              have hrx := (HAR.out.row kR _ hx).keep HOWR.out
                                              have hry := (HBR.out.row kR _ hy).keep HOWR.out
                                              have hki : (0 : Int) ≤ (kR : Int) := by omega
                                              have hkx : (kR : Int) < (xrulesl.length : Int) := by omega
                                              have hky : (kR : Int) < (yrulesl.length : Int) := by have := HLR.out; omega
                                              clear hx hy
                                              obtain ⟨ueo, uen, ues, ueu, ueA, uec, uel, usA, usc, usl⟩ := ue
                                              obtain ⟨zeo, zen, zes, zeu, zeA, zec, zel, zsA, zsc, zsl⟩ := ze
                                              obtain ⟨ba, oa, hAe, hba, c0, c1, c2, c3, c4, c5⟩ := Ru.at_cells hrx
                                              obtain ⟨bb, ob, hBe, hbb, d0, d1, d2, d3, d4, d5⟩ := Ru.at_cells hry
                                              have HCX := Lib.hid (show ba < wqR.heap.size ∧ wqR.cell? ⟨ba, oa + kR * 6, none⟩ = some (.int .i64 ueo) ∧ wqR.cell? ⟨ba, oa + kR * 6 + 1, none⟩ = some (.int .i64 uen) ∧ wqR.cell? ⟨ba, oa + kR * 6 + 2, none⟩ = some (.string ues) ∧ wqR.cell? ⟨ba, oa + kR * 6 + 3, none⟩ = some (.string ueu) ∧ wqR.cell? ⟨ba, oa + kR * 6 + 4, none⟩ = some (.slice ueA uel.length uec) ∧ wqR.cell? ⟨ba, oa + kR * 6 + 5, none⟩ = some (.slice usA usl.length usc) from ⟨hba, c0, c1, c2, c3, c4, c5⟩)
                                              have HCY := Lib.hid (show bb < wqR.heap.size ∧ wqR.cell? ⟨bb, ob + kR * 6, none⟩ = some (.int .i64 zeo) ∧ wqR.cell? ⟨bb, ob + kR * 6 + 1, none⟩ = some (.int .i64 zen) ∧ wqR.cell? ⟨bb, ob + kR * 6 + 2, none⟩ = some (.string zes) ∧ wqR.cell? ⟨bb, ob + kR * 6 + 3, none⟩ = some (.string zeu) ∧ wqR.cell? ⟨bb, ob + kR * 6 + 4, none⟩ = some (.slice zeA zel.length zec) ∧ wqR.cell? ⟨bb, ob + kR * 6 + 5, none⟩ = some (.slice zsA zsl.length zsc) from ⟨hbb, d0, d1, d2, d3, d4, d5⟩)
                                              subst hAe
                                              subst hBe
                                              clear hrx hry hba hbb c0 d0 c1 d1 c2 d2 c3 d3 c4 d4 c5 d5
                                              have HUA := Lib.hid (show RowX Ac.cs 7 Ac.Li wqR usA usl from hLx.2)
                                              have HUB := Lib.hid (show RowX Ac.cs 7 Ac.Li wqR zsA zsl from hLy.2)
                                              have hcA := fun W (o : Only [] wqR W) => rsame_any (.mk ueo uen ues ueu ueA uec uel) (.mk zeo zen zes zeu zeA zec zel) W (hLx.1.keep o) (hLy.1.keep o)
                                              have hE : Ru.same (.mk ueo uen ues ueu ueA uec uel usA usc usl) (.mk zeo zen zes zeu zeA zec zel zsA zsc zsl) = ((Ex.mk ueo uen ues ueu ueA uec uel).tr.same (Ex.mk zeo zen zes zeu zeA zec zel).tr && alikeG Ac.same usl zsl) := rfl
                                              obtain ⟨pe, hpe⟩ : ∃ pe, (Ex.mk ueo uen ues ueu ueA uec uel).tr.same (Ex.mk zeo zen zes zeu zeA zec zel).tr = pe := ⟨_, rfl⟩
                                              obtain ⟨pi, hpi⟩ : ∃ pi, alikeG Ac.same usl zsl = pi := ⟨_, rfl⟩
                                              simp only [hpe] at hcA hE
                                              rw [hpi] at hE
                                              have HCA := Lib.hid (show ∀ W, Only [] wqR W → Calls Tryd.prog 14 #[.agg #[.int .i64 ueo, .int .i64 uen, .string ues, .string ueu, .slice ueA uel.length uec], .agg #[.int .i64 zeo, .int .i64 zen, .string zes, .string zeu, .slice zeA zel.length zec]] W fun r w' => r = .returned (.bool pe) ∧ Only [] W w' from hcA)
                                              have HPE := Lib.hid hE
                                              have HPI := Lib.hid hpi
                                              clear hcA hE hpe hpi hLx hLy
                                              go_wp2_with (fail)
                                              clear bx13 by13 bxl byl
                                              refine (wpIn_wide (n := 9)).1 ?_
                                              refine wpIn_region_relG 13 (RelF wqR.heap.size) (V23 wqR.heap.size #[.int .i64 0, .int .i64 0, .string "".toUTF8, .string "".toUTF8, .slice none 0 0, .slice none 0 0]) (F23 (.pointer (some ⟨w.heap.size, 13, none⟩)) (.slice (some ⟨ba, oa, none⟩) xrulesl.length xrulesc) (.int .i64 (kR : Int)) (.pointer (some ⟨ba, oa + kR * 6, none⟩)) (.agg #[.int .i64 ueo, .int .i64 uen, .string ues, .string ueu, .slice ueA uel.length uec, .slice usA usl.length usc]) (.pointer (some ⟨w.heap.size + 1, 13, none⟩)) (.slice (some ⟨bb, ob, none⟩) yrulesl.length yrulesc) (.int .i64 (kR : Int)) (.pointer (some ⟨bb, ob + kR * 6, none⟩)) (.agg #[.int .i64 zeo, .int .i64 zen, .string zes, .string zeu, .slice zeA zel.length zec, .slice zsA zsl.length zsc]) #[.int .i64 ueo, .int .i64 uen, .string ues, .string ueu, .slice ueA uel.length uec, .slice usA usl.length usc]) (none, none) (fr := ?fr9) (tl := ?tl9) (.inl rfl) (by kernel_rfl) (by kernel_rfl) (by kernel_rfl) (by kernel_rfl) (by kernel_rfl) (by kernel_rfl) (by decide) ?htl9 ?hfr9 (RelF.of (Only.refl _ _)) (fun _ _ _ h k => h.trans k) ⟨fun _ h => (by cases h), fun _ h => (by cases h), fun _ _ h => (by cases h)⟩ ?steps9 ?done9
                                              case htl9 => simp only [List.drop_succ_cons, List.drop_zero]; rfl
                                              case hfr9 => intro vals; simp only [putAll, dstAt, Act.put, List.getElem?_toArray, List.getElem?_cons_zero, List.getElem?_cons_succ, Option.bind_some, List.setIfInBounds_toArray, List.set_cons_zero, List.set_cons_succ]; rfl
                                              case steps9 =>
                                                refine ⟨?_, ?_, ?_, ?_, ?_, ?_, ?_, ?_, ?_, ?_, ?_, ?_, ?_, trivial⟩
                                                · intro g vals wr hR hV hp K hK
                                                  dsimp only at hK ⊢
                                                  replace hR := hR.only (Nat.le_refl _)
                                                  clear hp
                                                  unfold RunsOp
                                                  go_simp
                                                  exact hK.out _ _ ⟨_, g, rfl, RelF.of (Only.refl _ _), hV, rfl, fun _ _ _ _ h => h⟩
                                                · intro g vals wr hR hV hp K hK
                                                  dsimp only at hK ⊢
                                                  replace hR := hR.only (Nat.le_refl _)
                                                  obtain ⟨p0, -⟩ := hp
                                                  replace p0 := p0 rfl
                                                  replace p0 : vals 0 = .pointer (some ⟨w.heap.size, 13, none⟩) := p0
                                                  rw [p0] at hK ⊢
                                                  clear p0
                                                  unfold RunsOp
                                                  obtain ⟨k0, k1, k2, k3, k4, k5, k6, k7, k8, k9, k10, k11, k12, k13, kl⟩ := (hR.blk (Blk.drew HXR.out) (by simp)).facts14
                                                  go_simp
                                                  exact hK.out _ _ ⟨_, g, rfl, RelF.of (Only.refl _ _), hV, rfl, fun _ _ _ _ h => h⟩
                                                · intro g vals wr hR hV hp K hK
                                                  dsimp only at hK ⊢
                                                  replace hR := hR.only (Nat.le_refl _)
                                                  clear hp
                                                  unfold RunsOp
                                                  go_simp
                                                  exact hK.out _ _ ⟨_, g, rfl, RelF.of (Only.refl _ _), hV, rfl, fun _ _ _ _ h => h⟩
                                                · intro g vals wr hR hV hp K hK
                                                  dsimp only at hK ⊢
                                                  replace hR := hR.only (Nat.le_refl _)
                                                  obtain ⟨p1, p2, -⟩ := hp
                                                  replace p1 := p1 rfl
                                                  replace p2 := p2 rfl
                                                  replace p1 : vals 1 = .slice (some ⟨ba, oa, none⟩) xrulesl.length xrulesc := p1
                                                  replace p2 : vals 2 = .int .i64 (kR : Int) := p2
                                                  rw [p1, p2] at hK ⊢
                                                  clear p1 p2
                                                  unfold RunsOp
                                                  go_simp
                                                  exact hK.out _ _ ⟨_, g, rfl, RelF.of (Only.refl _ _), hV, rfl, fun _ _ _ _ h => h⟩
                                                · intro g vals wr hR hV hp K hK
                                                  dsimp only at hK ⊢
                                                  replace hR := hR.only (Nat.le_refl _)
                                                  obtain ⟨p3, -⟩ := hp
                                                  replace p3 := p3 rfl
                                                  replace p3 : vals 3 = .pointer (some ⟨ba, oa + kR * 6, none⟩) := p3
                                                  rw [p3] at hK ⊢
                                                  clear p3
                                                  unfold RunsOp
                                                  have q0 := (hR.cell (p := ⟨ba, oa + kR * 6, none⟩) HCX.out.1 (by simp)).trans HCX.out.2.1
                                                  have q1 := (hR.cell (p := ⟨ba, oa + kR * 6 + 1, none⟩) HCX.out.1 (by simp)).trans HCX.out.2.2.1
                                                  have q2 := (hR.cell (p := ⟨ba, oa + kR * 6 + 2, none⟩) HCX.out.1 (by simp)).trans HCX.out.2.2.2.1
                                                  have q3 := (hR.cell (p := ⟨ba, oa + kR * 6 + 3, none⟩) HCX.out.1 (by simp)).trans HCX.out.2.2.2.2.1
                                                  have q4 := (hR.cell (p := ⟨ba, oa + kR * 6 + 4, none⟩) HCX.out.1 (by simp)).trans HCX.out.2.2.2.2.2.1
                                                  have q5 := (hR.cell (p := ⟨ba, oa + kR * 6 + 5, none⟩) HCX.out.1 (by simp)).trans HCX.out.2.2.2.2.2.2
                                                  go_simp
                                                  exact hK.out _ _ ⟨_, g, rfl, RelF.of (Only.refl _ _), hV, rfl, fun _ _ _ _ h => h⟩
                                                · intro g vals wr hR hV hp K hK
                                                  dsimp only at hK ⊢
                                                  replace hR := hR.only (Nat.le_refl _)
                                                  clear hp
                                                  unfold RunsOp
                                                  go_simp
                                                  exact hK.out _ _ ⟨_, g, rfl, RelF.of (Only.refl _ _), hV, rfl, fun _ _ _ _ h => h⟩
                                                · intro g vals wr hR hV hp K hK
                                                  dsimp only at hK ⊢
                                                  replace hR := hR.only (Nat.le_refl _)
                                                  obtain ⟨p5, -, -⟩ := hp
                                                  replace p5 := p5 rfl
                                                  replace p5 : vals 5 = .pointer (some ⟨w.heap.size + 1, 13, none⟩) := p5
                                                  rw [p5] at hK ⊢
                                                  clear p5
                                                  unfold RunsOp
                                                  obtain ⟨k0, k1, k2, k3, k4, k5, k6, k7, k8, k9, k10, k11, k12, k13, kl⟩ := (hR.blk (Blk.drew HYR.out) (by simp)).facts14
                                                  go_simp
                                                  exact hK.out _ _ ⟨_, g, rfl, RelF.of (Only.refl _ _), hV, rfl, fun _ _ _ _ h => h⟩
                                                · intro g vals wr hR hV hp K hK
                                                  dsimp only at hK ⊢
                                                  replace hR := hR.only (Nat.le_refl _)
                                                  clear hp
                                                  unfold RunsOp
                                                  go_simp
                                                  exact hK.out _ _ ⟨_, g, rfl, RelF.of (Only.refl _ _), hV, rfl, fun _ _ _ _ h => h⟩
                                                · intro g vals wr hR hV hp K hK
                                                  dsimp only at hK ⊢
                                                  replace hR := hR.only (Nat.le_refl _)
                                                  obtain ⟨p6, p7, -, -⟩ := hp
                                                  replace p6 := p6 rfl
                                                  replace p7 := p7 rfl
                                                  replace p6 : vals 6 = .slice (some ⟨bb, ob, none⟩) yrulesl.length yrulesc := p6
                                                  replace p7 : vals 7 = .int .i64 (kR : Int) := p7
                                                  rw [p6, p7] at hK ⊢
                                                  clear p6 p7
                                                  unfold RunsOp
                                                  go_simp
                                                  exact hK.out _ _ ⟨_, g, rfl, RelF.of (Only.refl _ _), hV, rfl, fun _ _ _ _ h => h⟩
                                                · intro g vals wr hR hV hp K hK
                                                  dsimp only at hK ⊢
                                                  replace hR := hR.only (Nat.le_refl _)
                                                  obtain ⟨p8, -, -⟩ := hp
                                                  replace p8 := p8 rfl
                                                  replace p8 : vals 8 = .pointer (some ⟨bb, ob + kR * 6, none⟩) := p8
                                                  rw [p8] at hK ⊢
                                                  clear p8
                                                  unfold RunsOp
                                                  have q0 := (hR.cell (p := ⟨bb, ob + kR * 6, none⟩) HCY.out.1 (by simp)).trans HCY.out.2.1
                                                  have q1 := (hR.cell (p := ⟨bb, ob + kR * 6 + 1, none⟩) HCY.out.1 (by simp)).trans HCY.out.2.2.1
                                                  have q2 := (hR.cell (p := ⟨bb, ob + kR * 6 + 2, none⟩) HCY.out.1 (by simp)).trans HCY.out.2.2.2.1
                                                  have q3 := (hR.cell (p := ⟨bb, ob + kR * 6 + 3, none⟩) HCY.out.1 (by simp)).trans HCY.out.2.2.2.2.1
                                                  have q4 := (hR.cell (p := ⟨bb, ob + kR * 6 + 4, none⟩) HCY.out.1 (by simp)).trans HCY.out.2.2.2.2.2.1
                                                  have q5 := (hR.cell (p := ⟨bb, ob + kR * 6 + 5, none⟩) HCY.out.1 (by simp)).trans HCY.out.2.2.2.2.2.2
                                                  go_simp
                                                  exact hK.out _ _ ⟨_, g, rfl, RelF.of (Only.refl _ _), hV, rfl, fun _ _ _ _ h => h⟩
                                                · intro g vals wr hR hV hp K hK
                                                  dsimp only at hK ⊢
                                                  replace hR := hR.only (Nat.le_refl _)
                                                  clear hp
                                                  unfold RunsOp
                                                  have HV := Lib.hid hV
                                                  clear hV
                                                  have ho := (show Only [] wr (wr.alloc (.cells #[.int .i64 0, .int .i64 0, .string "".toUTF8, .string "".toUTF8, .slice none 0 0, .slice none 0 0] 77)) from (Only.refl _ _).alloc _)
                                                  have hb := Blk.new wr 77 #[.int .i64 0, .int .i64 0, .string "".toUTF8, .string "".toUTF8, .slice none 0 0, .slice none 0 0]
                                                  have HH := Lib.hid (And.intro ho (And.intro hb hR.size))
                                                  clear ho hb
                                                  go_simp
                                                  exact hK.out _ _ ⟨_, (some wr.heap.size, g.2), rfl, RelF.of HH.out.1, HV.out.lay1 HH.out.2.2 HH.out.1 HH.out.2.1, ⟨_, rfl, rfl⟩, fun j u hj hn h => F23.lay1 hj (fun e => by subst e; exact Bool.noConfusion ((show _ = true by kernel_rfl).symm.trans hn)) h⟩
                                                · intro g vals wr hR hV hp K hK
                                                  dsimp only at hK ⊢
                                                  replace hR := hR.only (Nat.le_refl _)
                                                  clear hp
                                                  unfold RunsOp
                                                  have HV := Lib.hid hV
                                                  clear hV
                                                  have ho := (show Only [] wr (wr.alloc (.cells #[.int .i64 0, .int .i64 0, .string "".toUTF8, .string "".toUTF8, .slice none 0 0, .slice none 0 0] 77)) from (Only.refl _ _).alloc _)
                                                  have hb := Blk.new wr 77 #[.int .i64 0, .int .i64 0, .string "".toUTF8, .string "".toUTF8, .slice none 0 0, .slice none 0 0]
                                                  have HH := Lib.hid (And.intro ho (And.intro hb hR.size))
                                                  clear ho hb
                                                  go_simp
                                                  exact hK.out _ _ ⟨_, (g.1, some wr.heap.size), rfl, RelF.of HH.out.1, HV.out.lay2 HH.out.2.2 HH.out.1 HH.out.2.1, ⟨_, rfl, rfl⟩, fun j u hj hn h => F23.lay2 hj HH.out.1 h⟩
                                                · intro g vals wr hR hV hp K hK
                                                  dsimp only at hK ⊢
                                                  replace hR := hR.only (Nat.le_refl _)
                                                  obtain ⟨p10, p4, -, -, -, -, -, -, -, -, -, -, -, -, -⟩ := hp
                                                  replace p10 := p10 rfl
                                                  replace p4 := p4 rfl
                                                  obtain ⟨tb, hg, e10⟩ := p10
                                                  replace p4 : vals 4 = .agg #[.int .i64 ueo, .int .i64 uen, .string ues, .string ueu, .slice ueA uel.length uec, .slice usA usl.length usc] := p4
                                                  rw [e10, p4] at hK ⊢
                                                  clear e10 p4
                                                  unfold RunsOp
                                                  obtain ⟨hvl, c0, c1, c2, c3, c4, c5, hvb⟩ := hV.one tb hg
                                                  obtain ⟨t0, t1, t2, t3, t4, t5, tl⟩ := hvb.facts6
                                                  have tg0 := hvb.frozen 0
                                                  have tg1 := hvb.frozen 1
                                                  have tg2 := hvb.frozen 2
                                                  have tg3 := hvb.frozen 3
                                                  have tg4 := hvb.frozen 4
                                                  have tg5 := hvb.frozen 5
                                                  have ho : Only [tb] wr (World.setCell (World.setCell (World.setCell (World.setCell (World.setCell (World.setCell wr ⟨tb, 0, none⟩ (.int .i64 ueo)) ⟨tb, 1, none⟩ (.int .i64 uen)) ⟨tb, 2, none⟩ (.string ues)) ⟨tb, 3, none⟩ (.string ueu)) ⟨tb, 4, none⟩ (.slice ueA uel.length uec)) ⟨tb, 5, none⟩ (.slice usA usl.length usc)) := (((((((Only.refl [tb] wr).setCell (p := ⟨tb, 0, none⟩) (.inl (by simp)) (.int .i64 ueo)).setCell (p := ⟨tb, 1, none⟩) (.inl (by simp)) (.int .i64 uen)).setCell (p := ⟨tb, 2, none⟩) (.inl (by simp)) (.string ues)).setCell (p := ⟨tb, 3, none⟩) (.inl (by simp)) (.string ueu)).setCell (p := ⟨tb, 4, none⟩) (.inl (by simp)) (.slice ueA uel.length uec)).setCell (p := ⟨tb, 5, none⟩) (.inl (by simp)) (.slice usA usl.length usc))
                                                  have hb : Blk (World.setCell (World.setCell (World.setCell (World.setCell (World.setCell (World.setCell wr ⟨tb, 0, none⟩ (.int .i64 ueo)) ⟨tb, 1, none⟩ (.int .i64 uen)) ⟨tb, 2, none⟩ (.string ues)) ⟨tb, 3, none⟩ (.string ueu)) ⟨tb, 4, none⟩ (.slice ueA uel.length uec)) ⟨tb, 5, none⟩ (.slice usA usl.length usc)) tb 77 #[.int .i64 ueo, .int .i64 uen, .string ues, .string ueu, .slice ueA uel.length uec, .slice usA usl.length usc] := ((((((hvb.set_ 0 (.int .i64 ueo)).set_ 1 (.int .i64 uen)).set_ 2 (.string ues)).set_ 3 (.string ueu)).set_ 4 (.slice ueA uel.length uec)).set_ 5 (.slice usA usl.length usc))
                                                  have HH := Lib.hid (And.intro ho (And.intro hb (And.intro hvl hV)))
                                                  clear ho hb hvb hV hvl
                                                  go_simp
                                                  exact hK.out _ _ ⟨.int .i64 0, g, rfl, ⟨[tb], fun x hx => by simp at hx; subst hx; exact HH.out.2.2.1, HH.out.1⟩, HH.out.2.2.2.set hg HH.out.1 HH.out.2.1, ⟨tb, hg, HH.out.2.1⟩, fun _ _ hj _ h => F23.set hj h⟩
                                              case done9 =>
                                                intro g vals wd hR hV hF
                                                have f0 : vals 0 = .pointer (some ⟨w.heap.size, 13, none⟩) := hF 0 (by decide)
                                                have f1 : vals 1 = .slice (some ⟨ba, oa, none⟩) xrulesl.length xrulesc := hF 1 (by decide)
                                                have f2 : vals 2 = .int .i64 (kR : Int) := hF 2 (by decide)
                                                have f3 : vals 3 = .pointer (some ⟨ba, oa + kR * 6, none⟩) := hF 3 (by decide)
                                                have f4 : vals 4 = .agg #[.int .i64 ueo, .int .i64 uen, .string ues, .string ueu, .slice ueA uel.length uec, .slice usA usl.length usc] := hF 4 (by decide)
                                                have f5 : vals 5 = .pointer (some ⟨w.heap.size + 1, 13, none⟩) := hF 5 (by decide)
                                                have f6 : vals 6 = .slice (some ⟨bb, ob, none⟩) yrulesl.length yrulesc := hF 6 (by decide)
                                                have f7 : vals 7 = .int .i64 (kR : Int) := hF 7 (by decide)
                                                have f8 : vals 8 = .pointer (some ⟨bb, ob + kR * 6, none⟩) := hF 8 (by decide)
                                                have f9 : vals 9 = .agg #[.int .i64 zeo, .int .i64 zen, .string zes, .string zeu, .slice zeA zel.length zec, .slice zsA zsl.length zsc] := hF 9 (by decide)
                                                obtain ⟨ta, hga, f10⟩ := hF 10 (by decide)
                                                obtain ⟨tb, hgb, f11⟩ := hF 11 (by decide)
                                                obtain ⟨ta', hga', hBA⟩ := hF 12 (by decide)
                                                obtain rfl : ta = ta' := (by rw [hga] at hga'; injection hga')
                                                have hnb := (hV.two tb hgb).1
                                                have hBB := (hV.two tb hgb).2
                                                have hne := hV.ne _ _ hga hgb
                                                replace hR := hR.only (Nat.le_refl _)
                                                rw [f0, f1, f2, f3, f4, f5, f6, f7, f8, f9, f10, f11]
                                                clear f0 f1 f2 f3 f4 f5 f6 f7 f8 f9 f10 f11 hF hV hga hgb hga'
                                                obtain ⟨t0, t1, t2, t3, t4, t5, tl⟩ := hBB.facts6
                                                have tg0 := hBB.frozen 0
                                                have tg1 := hBB.frozen 1
                                                have tg2 := hBB.frozen 2
                                                have tg3 := hBB.frozen 3
                                                have tg4 := hBB.frozen 4
                                                have tg5 := hBB.frozen 5
                                                obtain ⟨w5, hw5⟩ : ∃ W : World, (World.setCell (World.setCell (World.setCell (World.setCell (World.setCell (World.setCell wd ⟨tb, 0, none⟩ (.int .i64 zeo)) ⟨tb, 1, none⟩ (.int .i64 zen)) ⟨tb, 2, none⟩ (.string zes)) ⟨tb, 3, none⟩ (.string zeu)) ⟨tb, 4, none⟩ (.slice zeA zel.length zec)) ⟨tb, 5, none⟩ (.slice zsA zsl.length zsc)) = W := ⟨_, rfl⟩
                                                have ho : Only [tb] wd w5 := by rw [← hw5]; exact (((((((Only.refl [tb] wd).setCell (p := ⟨tb, 0, none⟩) (.inl (by simp)) (.int .i64 zeo)).setCell (p := ⟨tb, 1, none⟩) (.inl (by simp)) (.int .i64 zen)).setCell (p := ⟨tb, 2, none⟩) (.inl (by simp)) (.string zes)).setCell (p := ⟨tb, 3, none⟩) (.inl (by simp)) (.string zeu)).setCell (p := ⟨tb, 4, none⟩) (.inl (by simp)) (.slice zeA zel.length zec)).setCell (p := ⟨tb, 5, none⟩) (.inl (by simp)) (.slice zsA zsl.length zsc))
                                                have HBB := Lib.hid (show Blk w5 tb 77 #[.int .i64 zeo, .int .i64 zen, .string zes, .string zeu, .slice zeA zel.length zec, .slice zsA zsl.length zsc] from by rw [← hw5]; exact ((((((hBB.set_ 0 (.int .i64 zeo)).set_ 1 (.int .i64 zen)).set_ 2 (.string zes)).set_ 3 (.string zeu)).set_ 4 (.slice zeA zel.length zec)).set_ 5 (.slice zsA zsl.length zsc)))
                                                have HBA := Lib.hid (show Blk w5 ta 77 #[.int .i64 ueo, .int .i64 uen, .string ues, .string ueu, .slice ueA uel.length uec, .slice usA usl.length usc] from by rw [← hw5]; exact ((((((hBA.far (p := ⟨tb, 0, none⟩) hne (.int .i64 zeo)).far (p := ⟨tb, 1, none⟩) hne (.int .i64 zen)).far (p := ⟨tb, 2, none⟩) hne (.string zes)).far (p := ⟨tb, 3, none⟩) hne (.string zeu)).far (p := ⟨tb, 4, none⟩) hne (.slice zeA zel.length zec)).far (p := ⟨tb, 5, none⟩) hne (.slice zsA zsl.length zsc)))
                                                have hOa : Only [] wqR w5 := ((Only.refl [] _).drew.trans hR (by simp)).trans ho (fun x hx => .inr (by simp at hx; subst hx; exact hnb))
                                                have HO5 := Lib.hid hOa
                                                clear hR hBA hBB ho hOa hne hnb
                                                have HW5 := Lib.hid hw5
                                                clear hw5
                                                gi_wp2_with (fail)
                                                rw [HW5.out]
                                                clear HW5 t0 t1 t2 t3 t4 t5 tl tg0 tg1 tg2 tg3 tg4 tg5
                                                obtain ⟨r0, r1, r2, r3, r4, r5, rl⟩ := HBA.out.facts6
                                                obtain ⟨s0, s1, s2, s3, s4, s5, sl⟩ := HBB.out.facts6
                                                go_wp2_with (fail)
                                                refine (HCA.out _ HO5.out).mono ?_
                                                rintro r w6 ⟨rfl, o6⟩
                                                have HO6 := Lib.hid (HO5.out.trans o6 (by simp))
                                                have HOR6 := Lib.hid (HOr.out.trans HO6.out (by simp))
                                                have HBA6 := Lib.hid (o6.blk HBA.out (by simp))
                                                have HBB6 := Lib.hid (o6.blk HBB.out (by simp))
                                                clear o6 HO5 HBA HBB r0 r1 r2 r3 r4 r5 rl s0 s1 s2 s3 s4 s5 sl
                                                cases pe
                                                · go_wp2_with (fail)
                                                  go_ret
                                                  exact ⟨by rw [show qR = false from HBAD.out (HPE.out.trans rfl)]; simp, HOPR.out.trans HOR6.out (by simp)⟩
                                                · obtain ⟨r0, r1, r2, r3, r4, r5, rl⟩ := HBA6.out.facts6
                                                  obtain ⟨s0, s1, s2, s3, s4, s5, sl⟩ := HBB6.out.facts6
                                                  clear r0 r1 r2 r3 r4 s0 s1 s2 s3 s4
                                                  by_cases hla : usl.length = zsl.length
                                                  · have e1 : ((usl.length : Int) != (zsl.length : Int)) = false := by simp [hla]
                                                    have HLA := Lib.hid hla
                                                    have hlA := HUA.out.len
                                                    have hlB := HUB.out.len
                                                    clear hla
                                                    go_wp2_with (fail)
                                                    clear e1 r5 s5 rl sl
                                                    go_loopw [11] (fun i wr => ∃ k : Nat, i = .int .i64 k ∧ k ≤ usl.length ∧ Hid (alikeG Ac.same (usl.take k) (zsl.take k) = true) ∧ Hid (Only [] w6 wr)) (fun i _ => usl.length - (intOf i).toNat)
                                                    case atStart => exact ⟨0, rfl, Nat.zero_le _, Lib.hid (by simp [alikeG]), Lib.hid (Only.refl _ _)⟩
                                                    case round =>
                                                      obtain ⟨kA, rfl, hkA, HPA, HOs⟩ := hrel
                                                      obtain ⟨wqA, hwq⟩ : ∃ wq : World, wq = wr := ⟨_, rfl⟩
                                                      subst hwq
                                                      have HBAr := Lib.hid (HOs.out.blk HBA6.out (by simp))
                                                      have HBBr := Lib.hid (HOs.out.blk HBB6.out (by simp))
                                                      have HOWA := Lib.hid (HO6.out.trans HOs.out (by simp))
                                                      obtain ⟨r0, r1, r2, r3, r4, r5, rl⟩ := HBAr.out.facts6
                                                      obtain ⟨s0, s1, s2, s3, s4, s5, sl⟩ := HBBr.out.facts6
                                                      clear r0 r1 r2 r3 r4 s0 s1 s2 s3 s4
                                                      by_cases hlt : kA < usl.length
                                                      · obtain ⟨me, hx⟩ : ∃ e, usl[kA]? = some e := ⟨_, List.getElem?_eq_getElem hlt⟩
                                                        obtain ⟨je, hy⟩ : ∃ e, zsl[kA]? = some e := ⟨_, List.getElem?_eq_getElem (by have := HLA.out; omega)⟩
                                                        have HTKA := Lib.hid (alikeG_take (p := Ac.same) HLA.out hx hy)
                                                        have HBADA := Lib.hid (fun h => HPI.out.symm.trans (alikeG_bad (p := Ac.same) hx hy h))
                                                        have hrx := (HUA.out.row kA _ hx).keep HOWA.out
                                                        have hry := (HUB.out.row kA _ hy).keep HOWA.out
                                                        have hki : (0 : Int) ≤ (kA : Int) := by omega
                                                        have hkx : (kA : Int) < (usl.length : Int) := by omega
                                                        have hky : (kA : Int) < (zsl.length : Int) := by have := HLA.out; omega
                                                        clear hx hy HCX HCY
                                                        obtain ⟨mk, mn, mm, ma, mb, mc, md⟩ := me
                                                        obtain ⟨jk, jn, jm, ja, jb, jc, jd⟩ := je
                                                        obtain ⟨ba, oa, hAe, hba, c0, c1, c2, c3, c4, c5, c6⟩ := Ac.at_cells hrx
                                                        obtain ⟨bb, ob, hBe, hbb, d0, d1, d2, d3, d4, d5, d6⟩ := Ac.at_cells hry
                                                        have HCX := Lib.hid (show ba < wqA.heap.size ∧ wqA.cell? ⟨ba, oa + kA * 7, none⟩ = some (.int .i64 mk) ∧ wqA.cell? ⟨ba, oa + kA * 7 + 1, none⟩ = some (.string mn) ∧ wqA.cell? ⟨ba, oa + kA * 7 + 2, none⟩ = some (.string mm) ∧ wqA.cell? ⟨ba, oa + kA * 7 + 3, none⟩ = some (.string ma) ∧ wqA.cell? ⟨ba, oa + kA * 7 + 4, none⟩ = some (.string mb) ∧ wqA.cell? ⟨ba, oa + kA * 7 + 5, none⟩ = some (.string mc) ∧ wqA.cell? ⟨ba, oa + kA * 7 + 6, none⟩ = some (.string md) from ⟨hba, c0, c1, c2, c3, c4, c5, c6⟩)
                                                        have HCY := Lib.hid (show bb < wqA.heap.size ∧ wqA.cell? ⟨bb, ob + kA * 7, none⟩ = some (.int .i64 jk) ∧ wqA.cell? ⟨bb, ob + kA * 7 + 1, none⟩ = some (.string jn) ∧ wqA.cell? ⟨bb, ob + kA * 7 + 2, none⟩ = some (.string jm) ∧ wqA.cell? ⟨bb, ob + kA * 7 + 3, none⟩ = some (.string ja) ∧ wqA.cell? ⟨bb, ob + kA * 7 + 4, none⟩ = some (.string jb) ∧ wqA.cell? ⟨bb, ob + kA * 7 + 5, none⟩ = some (.string jc) ∧ wqA.cell? ⟨bb, ob + kA * 7 + 6, none⟩ = some (.string jd) from ⟨hbb, d0, d1, d2, d3, d4, d5, d6⟩)
                                                        subst hAe
                                                        subst hBe
                                                        clear hrx hry hba hbb c0 d0 c1 d1 c2 d2 c3 d3 c4 d4 c5 d5 c6 d6
                                                        have hEQ := neq_Ac mk mn mm ma mb mc md jk jn jm ja jb jc jd
                                                        obtain ⟨pa, hpa⟩ : ∃ pe, Ac.same (.mk mk mn mm ma mb mc md) (.mk jk jn jm ja jb jc jd) = pe := ⟨_, rfl⟩
                                                        rw [hpa] at hEQ
                                                        have HPC := Lib.hid hpa
                                                        have EQ := Lib.hid hEQ
                                                        clear hEQ hpa
                                                        go_wp2_with (fail)
                                                        clear r5 s5 rl sl
                                                        refine (wpIn_wide (n := 9)).1 ?_
                                                        refine wpIn_region_relR 11 (Only []) (fr := ?frc1) (tl := ?tlc1) (fun iq v wv => match iq with
                                                          | 0 => v = .pointer (some ⟨ta, 5, none⟩)
                                                          | 1 => v = .slice (some ⟨ba, oa, none⟩) usl.length usc
                                                          | 2 => v = .int .i64 (kA : Int)
                                                          | 3 => v = .pointer (some ⟨ba, oa + kA * 7, none⟩)
                                                          | 4 => v = .agg #[.int .i64 mk, .string mn, .string mm, .string ma, .string mb, .string mc, .string md]
                                                          | 5 => v = .pointer (some ⟨tb, 5, none⟩)
                                                          | 6 => v = .slice (some ⟨bb, ob, none⟩) zsl.length zsc
                                                          | 7 => v = .int .i64 (kA : Int)
                                                          | 8 => v = .pointer (some ⟨bb, ob + kA * 7, none⟩)
                                                          | 9 => v = .agg #[.int .i64 jk, .string jn, .string jm, .string ja, .string jb, .string jc, .string jd]
                                                          | 10 => v = .bool !pa
                                                          | _ => True) (.inl rfl) (by kernel_rfl) (by kernel_rfl) (by kernel_rfl) (by kernel_rfl) (by kernel_rfl) (by kernel_rfl) (by decide) ?htlc1 ?hfrc1 (Only.refl _ _) (fun _ _ _ h k => h.trans k (fun _ hx => .inl hx)) ?stabc1 ?stepsc1 ?donec1
                                                        case htlc1 => simp only [List.drop_succ_cons, List.drop_zero]; rfl
                                                        case hfrc1 => intro vals; simp only [putAll, dstAt, Act.put, List.getElem?_toArray, List.getElem?_cons_zero, List.getElem?_cons_succ, Option.bind_some, List.setIfInBounds_toArray, List.set_cons_zero, List.set_cons_succ]; rfl
                                                        case stabc1 =>
                                                          intro i v wa wb h
                                                          try dsimp only
                                                          split <;> first | exact id
                                                        case stepsc1 =>
                                                          refine ⟨?_, ?_, ?_, ?_, ?_, ?_, ?_, ?_, ?_, ?_, ?_, trivial⟩
                                                          · intro vals wr hR hp K hK
                                                            dsimp only at hK ⊢
                                                            clear hp
                                                            unfold RunsOp
                                                            go_simp
                                                            exact hK.out _ _ ⟨_, rfl, Only.refl _ _, rfl⟩
                                                          · intro vals wr hR hp K hK
                                                            dsimp only at hK ⊢
                                                            obtain ⟨p0, -⟩ := hp
                                                            replace p0 := p0 rfl
                                                            dsimp only at p0
                                                            rw [p0] at hK ⊢
                                                            clear p0
                                                            unfold RunsOp
                                                            obtain ⟨k0, k1, k2, k3, k4, k5, kl⟩ := (hR.blk (Blk.drew HBAr.out) (by simp)).facts6
                                                            go_simp
                                                            exact hK.out _ _ ⟨_, rfl, Only.refl _ _, rfl⟩
                                                          · intro vals wr hR hp K hK
                                                            dsimp only at hK ⊢
                                                            clear hp
                                                            unfold RunsOp
                                                            go_simp
                                                            exact hK.out _ _ ⟨_, rfl, Only.refl _ _, rfl⟩
                                                          · intro vals wr hR hp K hK
                                                            dsimp only at hK ⊢
                                                            obtain ⟨p1, p2, -⟩ := hp
                                                            replace p1 := p1 rfl
                                                            replace p2 := p2 rfl
                                                            dsimp only at p1 p2
                                                            rw [p1, p2] at hK ⊢
                                                            clear p1 p2
                                                            unfold RunsOp
                                                            go_simp
                                                            exact hK.out _ _ ⟨_, rfl, Only.refl _ _, rfl⟩
                                                          · intro vals wr hR hp K hK
                                                            dsimp only at hK ⊢
                                                            obtain ⟨p3, -⟩ := hp
                                                            replace p3 := p3 rfl
                                                            dsimp only at p3
                                                            rw [p3] at hK ⊢
                                                            clear p3
                                                            unfold RunsOp
                                                            have q0 := (hR.cell (p := ⟨ba, oa + kA * 7, none⟩) HCX.out.1 (by simp)).trans HCX.out.2.1
                                                            have q1 := (hR.cell (p := ⟨ba, oa + kA * 7 + 1, none⟩) HCX.out.1 (by simp)).trans HCX.out.2.2.1
                                                            have q2 := (hR.cell (p := ⟨ba, oa + kA * 7 + 2, none⟩) HCX.out.1 (by simp)).trans HCX.out.2.2.2.1
                                                            have q3 := (hR.cell (p := ⟨ba, oa + kA * 7 + 3, none⟩) HCX.out.1 (by simp)).trans HCX.out.2.2.2.2.1
                                                            have q4 := (hR.cell (p := ⟨ba, oa + kA * 7 + 4, none⟩) HCX.out.1 (by simp)).trans HCX.out.2.2.2.2.2.1
                                                            have q5 := (hR.cell (p := ⟨ba, oa + kA * 7 + 5, none⟩) HCX.out.1 (by simp)).trans HCX.out.2.2.2.2.2.2.1
                                                            have q6 := (hR.cell (p := ⟨ba, oa + kA * 7 + 6, none⟩) HCX.out.1 (by simp)).trans HCX.out.2.2.2.2.2.2.2
                                                            go_simp
                                                            exact hK.out _ _ ⟨_, rfl, Only.refl _ _, rfl⟩
                                                          · intro vals wr hR hp K hK
                                                            dsimp only at hK ⊢
                                                            clear hp
                                                            unfold RunsOp
                                                            go_simp
                                                            exact hK.out _ _ ⟨_, rfl, Only.refl _ _, rfl⟩
                                                          · intro vals wr hR hp K hK
                                                            dsimp only at hK ⊢
                                                            obtain ⟨p5, -⟩ := hp
                                                            replace p5 := p5 rfl
                                                            dsimp only at p5
                                                            rw [p5] at hK ⊢
                                                            clear p5
                                                            unfold RunsOp
                                                            obtain ⟨k0, k1, k2, k3, k4, k5, kl⟩ := (hR.blk (Blk.drew HBBr.out) (by simp)).facts6
                                                            go_simp
                                                            exact hK.out _ _ ⟨_, rfl, Only.refl _ _, rfl⟩
                                                          · intro vals wr hR hp K hK
                                                            dsimp only at hK ⊢
                                                            clear hp
                                                            unfold RunsOp
                                                            go_simp
                                                            exact hK.out _ _ ⟨_, rfl, Only.refl _ _, rfl⟩
                                                          · intro vals wr hR hp K hK
                                                            dsimp only at hK ⊢
                                                            obtain ⟨p6, p7, -⟩ := hp
                                                            replace p6 := p6 rfl
                                                            replace p7 := p7 rfl
                                                            dsimp only at p6 p7
                                                            rw [p6, p7] at hK ⊢
                                                            clear p6 p7
                                                            unfold RunsOp
                                                            go_simp
                                                            exact hK.out _ _ ⟨_, rfl, Only.refl _ _, rfl⟩
                                                          · intro vals wr hR hp K hK
                                                            dsimp only at hK ⊢
                                                            obtain ⟨p8, -⟩ := hp
                                                            replace p8 := p8 rfl
                                                            dsimp only at p8
                                                            rw [p8] at hK ⊢
                                                            clear p8
                                                            unfold RunsOp
                                                            have q0 := (hR.cell (p := ⟨bb, ob + kA * 7, none⟩) HCY.out.1 (by simp)).trans HCY.out.2.1
                                                            have q1 := (hR.cell (p := ⟨bb, ob + kA * 7 + 1, none⟩) HCY.out.1 (by simp)).trans HCY.out.2.2.1
                                                            have q2 := (hR.cell (p := ⟨bb, ob + kA * 7 + 2, none⟩) HCY.out.1 (by simp)).trans HCY.out.2.2.2.1
                                                            have q3 := (hR.cell (p := ⟨bb, ob + kA * 7 + 3, none⟩) HCY.out.1 (by simp)).trans HCY.out.2.2.2.2.1
                                                            have q4 := (hR.cell (p := ⟨bb, ob + kA * 7 + 4, none⟩) HCY.out.1 (by simp)).trans HCY.out.2.2.2.2.2.1
                                                            have q5 := (hR.cell (p := ⟨bb, ob + kA * 7 + 5, none⟩) HCY.out.1 (by simp)).trans HCY.out.2.2.2.2.2.2.1
                                                            have q6 := (hR.cell (p := ⟨bb, ob + kA * 7 + 6, none⟩) HCY.out.1 (by simp)).trans HCY.out.2.2.2.2.2.2.2
                                                            go_simp
                                                            exact hK.out _ _ ⟨_, rfl, Only.refl _ _, rfl⟩
                                                          · intro vals wr hR hp K hK
                                                            dsimp only at hK ⊢
                                                            obtain ⟨p4, p9, -⟩ := hp
                                                            replace p4 := p4 rfl
                                                            replace p9 := p9 rfl
                                                            dsimp only at p4 p9
                                                            rw [p4, p9] at hK ⊢
                                                            clear p4 p9
                                                            unfold RunsOp
                                                            have en := EQ.out
                                                            go_simp
                                                            exact hK.out _ _ ⟨_, rfl, Only.refl _ _, rfl⟩
                                                        case donec1 =>
                                                          intro vals wd hR hF
                                                          have f0 : vals 0 = .pointer (some ⟨ta, 5, none⟩) := hF 0 (by decide)
                                                          have f1 : vals 1 = .slice (some ⟨ba, oa, none⟩) usl.length usc := hF 1 (by decide)
                                                          have f2 : vals 2 = .int .i64 (kA : Int) := hF 2 (by decide)
                                                          have f3 : vals 3 = .pointer (some ⟨ba, oa + kA * 7, none⟩) := hF 3 (by decide)
                                                          have f4 : vals 4 = .agg #[.int .i64 mk, .string mn, .string mm, .string ma, .string mb, .string mc, .string md] := hF 4 (by decide)
                                                          have f5 : vals 5 = .pointer (some ⟨tb, 5, none⟩) := hF 5 (by decide)
                                                          have f6 : vals 6 = .slice (some ⟨bb, ob, none⟩) zsl.length zsc := hF 6 (by decide)
                                                          have f7 : vals 7 = .int .i64 (kA : Int) := hF 7 (by decide)
                                                          have f8 : vals 8 = .pointer (some ⟨bb, ob + kA * 7, none⟩) := hF 8 (by decide)
                                                          have f9 : vals 9 = .agg #[.int .i64 jk, .string jn, .string jm, .string ja, .string jb, .string jc, .string jd] := hF 9 (by decide)
                                                          have f10 : vals 10 = .bool !pa := hF 10 (by decide)
                                                          rw [f0, f1, f2, f3, f4, f5, f6, f7, f8, f9, f10]
                                                          clear f0 f1 f2 f3 f4 f5 f6 f7 f8 f9 f10
                                                          have HO8 := Lib.hid (HOs.out.trans ((Only.refl [] _).drew.trans hR (by simp)) (by simp))
                                                          clear hR hF
                                                          gi_wp2_with (fail)
                                                          cases pa
                                                          · have hq : pi = false := HBADA.out HPC.out
                                                            subst hq
                                                            have HO9 := Lib.hid (HOR6.out.trans HO8.out (by simp))
                                                            go_wp2_with (fail)
                                                            go_ret
                                                            exact ⟨by rw [show qR = false from HBAD.out (HPE.out.trans rfl)]; simp, HOPR.out.trans HO9.out (by simp)⟩
                                                          · go_wp2_with (fail)
                                                            go_roundw
                                                            case rel => exact ⟨kA + 1, by go_num, by omega, Lib.hid (by rw [HTKA.out, HPA.out, HPC.out]; rfl), HO8⟩
                                                            case measure => simp [intOf] <;> omega
                                                      · obtain rfl : kA = usl.length := by omega
                                                        have iz : ¬ (usl.length : Int) < (usl.length : Int) := by omega
                                                        have hq : pi = true := by rw [← HPI.out]; have h := HPA.out; rw [List.take_length, List.take_of_length_le (by have := HLA.out; omega)] at h; exact h
                                                        subst hq
                                                        have HO5 := Lib.hid (HOR6.out.trans HOs.out (by simp))
                                                        go_wp2_with (fail)
                                                        go_roundw
                                                        case rel => exact ⟨kR + 1, _, _, _, by go_num, rfl, rfl, rfl, by omega, Lib.hid (by rw [HTK.out, HP.out, HPE.out]; rfl), HO5⟩
                                                        case measure => simp [intOf] <;> omega
                                                  · have e1 : ((usl.length : Int) != (zsl.length : Int)) = true := by simp; omega
                                                    have hq : pi = false := by rw [← HPI.out]; exact alikeG_len hla
                                                    subst hq
                                                    go_wp2_with (fail)
                                                    go_ret
                                                    exact ⟨by rw [show qR = false from HBAD.out (HPE.out.trans rfl)]; simp, HOPR.out.trans HOR6.out (by simp)⟩
                                            · obtain rfl : kR = xrulesl.length := by omega
                                              have iz : ¬ (xrulesl.length : Int) < (xrulesl.length : Int) := by omega
                                              have hq : qR = true := by rw [← HQR.out]; have h := HP.out; rw [List.take_length, List.take_of_length_le (by have := HLR.out; omega)] at h; exact h
                                              subst hq
                                              go_wp2_with (fail)
                                              go_ret
                                              exact ⟨by simp [eqS, e0], HOWR.out⟩
                            · have lRb : ((xrulesl.length : Int) != (yrulesl.length : Int)) = true := by simp; omega
                              have hq : qR = false := by rw [← HQR.out]; exact alikeG_len lR
                              subst hq
                              clear lR
                              go_wp2_with (fail)
                              go_ret
                              exact ⟨by simp, HO7.out⟩
                          · have lLb : ((xlinksl.length : Int) != (ylinksl.length : Int)) = true := by simp; omega
                            have hq : qL = false := by rw [← HQL.out]; exact alikeG_len lL
                            subst hq
                            clear lL
                            go_wp2_with (fail)
                            go_ret
                            exact ⟨by simp, HO7.out⟩
                        · have lPb : ((xpartsl.length : Int) != (ypartsl.length : Int)) = true := by simp; omega
                          have hq : qP = false := by rw [← HQP.out]; exact alikeG_len lP
                          subst hq
                          clear lP
                          go_wp2_with (fail)
                          go_ret
                          exact ⟨by simp, HO7.out⟩
                      · have lEb : ((xemitsl.length : Int) != (yemitsl.length : Int)) = true := by simp; omega
                        have hq : qE = false := by rw [← HQE.out]; exact alikeG_len lE
                        subst hq
                        clear lE
                        go_wp2_with (fail)
                        go_ret
                        exact ⟨by simp, HO7.out⟩
      · have e2b : (xcon == ycon) = false := by simp [e2]
        exact absurd HC.out (by simp [eqS, e0, e2])
    · have e1b : (xcp == ycp) = false := by simp [e1]
      exact absurd HC.out (by simp [eqS, e0, e1])
  · have e0b : (xn.toList == yn.toList) = false := by simp [e0]
    exact absurd HC.out (by simp [eqS, e0])
end Go.Proofs.YtfnacnlaphpflaaDoor
