/- The document's SameModel, where a field ahead of the last rows differs. -/
import Derived.Test.YtfnacnlaphpflaaDoorPRM0
import Derived.Test.YtfnacnlaphpflaaDoorPRS
namespace Go.Proofs.YtfnacnlaphpflaaDoor
open Go.RowKit Go.Kx
open Go.Val (Tt)
set_option maxRecDepth 100000
set_option maxHeartbeats 16000000 in
theorem rsameMd_a {xn : ByteArray} {xcp : Bool} {xinsA : Option Addr} {xinsc : Nat} {xinsl : List Po} {xoutsA : Option Addr} {xoutsc : Nat} {xoutsl : List Po} {xvarsA : Option Addr} {xvarsc : Nat} {xvarsl : List Se} {xtaA : Option Addr} {xtac : Nat} {xtal : List Ex} {xemitsA : Option Addr} {xemitsc : Nat} {xemitsl : List Em} {xintA : Option Addr} {xintc : Nat} {xintl : List Se} {xextA : Option Addr} {xextc : Nat} {xextl : List Se} {xcon : Int} {xownA : Option Addr} {xownc : Nat} {xownl : List Se} {xpartsA : Option Addr} {xpartsc : Nat} {xpartsl : List Pa} {xlinksA : Option Addr} {xlinksc : Nat} {xlinksl : List Lk} {xrulesA : Option Addr} {xrulesc : Nat} {xrulesl : List Ru} {yn : ByteArray} {ycp : Bool} {yinsA : Option Addr} {yinsc : Nat} {yinsl : List Po} {youtsA : Option Addr} {youtsc : Nat} {youtsl : List Po} {yvarsA : Option Addr} {yvarsc : Nat} {yvarsl : List Se} {ytaA : Option Addr} {ytac : Nat} {ytal : List Ex} {yemitsA : Option Addr} {yemitsc : Nat} {yemitsl : List Em} {yintA : Option Addr} {yintc : Nat} {yintl : List Se} {yextA : Option Addr} {yextc : Nat} {yextl : List Se} {ycon : Int} {yownA : Option Addr} {yownc : Nat} {yownl : List Se} {ypartsA : Option Addr} {ypartsc : Nat} {ypartsl : List Pa} {ylinksA : Option Addr} {ylinksc : Nat} {ylinksl : List Lk} {yrulesA : Option Addr} {yrulesc : Nat} {yrulesl : List Ru} {w : World} (ha : Md.Li w (.mk xn xcp xinsA xinsc xinsl xoutsA xoutsc xoutsl xvarsA xvarsc xvarsl xtaA xtac xtal xemitsA xemitsc xemitsl xintA xintc xintl xextA xextc xextl xcon xownA xownc xownl xpartsA xpartsc xpartsl xlinksA xlinksc xlinksl xrulesA xrulesc xrulesl)) (hb : Md.Li w (.mk yn ycp yinsA yinsc yinsl youtsA youtsc youtsl yvarsA yvarsc yvarsl ytaA ytac ytal yemitsA yemitsc yemitsl yintA yintc yintl yextA yextc yextl ycon yownA yownc yownl ypartsA ypartsc ypartsl ylinksA ylinksc ylinksl yrulesA yrulesc yrulesl)) (hC : (eqS xn yn && decide (xcp = ycp) && decide (xcon = ycon) && alikeG Po.same xinsl yinsl && alikeG Po.same xoutsl youtsl && alikeG Se.same xvarsl yvarsl && alikeG Se.same xintl yintl && alikeG Se.same xextl yextl && alikeG Se.same xownl yownl && exsB xtal ytal) = false) : Calls Tryd.prog 46 #[.agg #[.string xn, .bool xcp, .slice xinsA xinsl.length xinsc, .slice xoutsA xoutsl.length xoutsc, .slice xvarsA xvarsl.length xvarsc, .slice xtaA xtal.length xtac, .slice xemitsA xemitsl.length xemitsc, .slice xintA xintl.length xintc, .slice xextA xextl.length xextc, .int .i64 xcon, .slice xownA xownl.length xownc, .slice xpartsA xpartsl.length xpartsc, .slice xlinksA xlinksl.length xlinksc, .slice xrulesA xrulesl.length xrulesc], .agg #[.string yn, .bool ycp, .slice yinsA yinsl.length yinsc, .slice youtsA youtsl.length youtsc, .slice yvarsA yvarsl.length yvarsc, .slice ytaA ytal.length ytac, .slice yemitsA yemitsl.length yemitsc, .slice yintA yintl.length yintc, .slice yextA yextl.length yextc, .int .i64 ycon, .slice yownA yownl.length yownc, .slice ypartsA ypartsl.length ypartsc, .slice ylinksA ylinksl.length ylinksc, .slice yrulesA yrulesl.length yrulesc]] w fun r w' => r = .returned (.bool (Md.same (.mk xn xcp xinsA xinsc xinsl xoutsA xoutsc xoutsl xvarsA xvarsc xvarsl xtaA xtac xtal xemitsA xemitsc xemitsl xintA xintc xintl xextA xextc xextl xcon xownA xownc xownl xpartsA xpartsc xpartsl xlinksA xlinksc xlinksl xrulesA xrulesc xrulesl) (.mk yn ycp yinsA yinsc yinsl youtsA youtsc youtsl yvarsA yvarsc yvarsl ytaA ytac ytal yemitsA yemitsc yemitsl yintA yintc yintl yextA yextc yextl ycon yownA yownc yownl ypartsA ypartsc ypartsl ylinksA ylinksc ylinksl yrulesA yrulesc yrulesl))) ∧ Only [] w w' := by
  have K0 := Lib.hid (fun W (o : Only [] w W) => (show Calls Tryd.prog 69 #[.slice xinsA xinsl.length xinsc, .slice yinsA yinsl.length yinsc] W fun r w' => r = .returned (.bool (alikeG Po.same xinsl yinsl)) ∧ Only [] W w' from rsames_Po (ca := xinsc) (cb := yinsc) (ha.2.2.1.keep Po.Li.keep o) (hb.2.2.1.keep Po.Li.keep o)))
  have K1 := Lib.hid (fun W (o : Only [] w W) => (show Calls Tryd.prog 69 #[.slice xoutsA xoutsl.length xoutsc, .slice youtsA youtsl.length youtsc] W fun r w' => r = .returned (.bool (alikeG Po.same xoutsl youtsl)) ∧ Only [] W w' from rsames_Po (ca := xoutsc) (cb := youtsc) (ha.2.2.2.1.keep Po.Li.keep o) (hb.2.2.2.1.keep Po.Li.keep o)))
  have K2 := Lib.hid (fun W (o : Only [] w W) => (show Calls Tryd.prog 70 #[.slice xvarsA xvarsl.length xvarsc, .slice yvarsA yvarsl.length yvarsc] W fun r w' => r = .returned (.bool (alikeG Se.same xvarsl yvarsl)) ∧ Only [] W w' from rsames_Se (ca := xvarsc) (cb := yvarsc) (ha.2.2.2.2.1.keep Se.Li.keep o) (hb.2.2.2.2.1.keep Se.Li.keep o)))
  have K3 := Lib.hid (fun W (o : Only [] w W) => (show Calls Tryd.prog 70 #[.slice xintA xintl.length xintc, .slice yintA yintl.length yintc] W fun r w' => r = .returned (.bool (alikeG Se.same xintl yintl)) ∧ Only [] W w' from rsames_Se (ca := xintc) (cb := yintc) (ha.2.2.2.2.2.2.2.1.keep Se.Li.keep o) (hb.2.2.2.2.2.2.2.1.keep Se.Li.keep o)))
  have K4 := Lib.hid (fun W (o : Only [] w W) => (show Calls Tryd.prog 70 #[.slice xextA xextl.length xextc, .slice yextA yextl.length yextc] W fun r w' => r = .returned (.bool (alikeG Se.same xextl yextl)) ∧ Only [] W w' from rsames_Se (ca := xextc) (cb := yextc) (ha.2.2.2.2.2.2.2.2.1.keep Se.Li.keep o) (hb.2.2.2.2.2.2.2.2.1.keep Se.Li.keep o)))
  have K5 := Lib.hid (fun W (o : Only [] w W) => (show Calls Tryd.prog 70 #[.slice xownA xownl.length xownc, .slice yownA yownl.length yownc] W fun r w' => r = .returned (.bool (alikeG Se.same xownl yownl)) ∧ Only [] W w' from rsames_Se (ca := xownc) (cb := yownc) (ha.2.2.2.2.2.2.2.2.2.2.1.keep Se.Li.keep o) (hb.2.2.2.2.2.2.2.2.2.2.1.keep Se.Li.keep o)))
  have K6 := Lib.hid (fun W (o : Only [] w W) => (show Calls Tryd.prog 71 #[.slice xtaA xtal.length xtac, .slice ytaA ytal.length ytac] W fun r w' => r = .returned (.bool (exsB xtal ytal)) ∧ Only [] W w' from rsames_Ex (ca := xtac) (cb := ytac) (ha.2.2.2.2.2.1.keep o) (hb.2.2.2.2.2.1.keep o)))
  have HAE := Lib.hid (show RowX Em.cs 7 Em.Li w xemitsA xemitsl from ha.2.2.2.2.2.2.1)
  have HBE := Lib.hid (show RowX Em.cs 7 Em.Li w yemitsA yemitsl from hb.2.2.2.2.2.2.1)
  have hlAE := HAE.out.len
  have hlBE := HBE.out.len
  have HAP := Lib.hid (show RowX Pa.cs 2 Pa.Li w xpartsA xpartsl from ha.2.2.2.2.2.2.2.2.2.2.2.1)
  have HBP := Lib.hid (show RowX Pa.cs 2 Pa.Li w ypartsA ypartsl from hb.2.2.2.2.2.2.2.2.2.2.2.1)
  have hlAP := HAP.out.len
  have hlBP := HBP.out.len
  have HAL := Lib.hid (show RowX Lk.cs 4 Lk.Li w xlinksA xlinksl from ha.2.2.2.2.2.2.2.2.2.2.2.2.1)
  have HBL := Lib.hid (show RowX Lk.cs 4 Lk.Li w ylinksA ylinksl from hb.2.2.2.2.2.2.2.2.2.2.2.2.1)
  have hlAL := HAL.out.len
  have hlBL := HBL.out.len
  have HAR := Lib.hid (show RowX Ru.cs 6 Ru.Li w xrulesA xrulesl from ha.2.2.2.2.2.2.2.2.2.2.2.2.2)
  have HBR := Lib.hid (show RowX Ru.cs 6 Ru.Li w yrulesA yrulesl from hb.2.2.2.2.2.2.2.2.2.2.2.2.2)
  have hlAR := HAR.out.len
  have hlBR := HBR.out.len
  have HE0 : Md.same (.mk xn xcp xinsA xinsc xinsl xoutsA xoutsc xoutsl xvarsA xvarsc xvarsl xtaA xtac xtal xemitsA xemitsc xemitsl xintA xintc xintl xextA xextc xextl xcon xownA xownc xownl xpartsA xpartsc xpartsl xlinksA xlinksc xlinksl xrulesA xrulesc xrulesl) (.mk yn ycp yinsA yinsc yinsl youtsA youtsc youtsl yvarsA yvarsc yvarsl ytaA ytac ytal yemitsA yemitsc yemitsl yintA yintc yintl yextA yextc yextl ycon yownA yownc yownl ypartsA ypartsc ypartsl ylinksA ylinksc ylinksl yrulesA yrulesc yrulesl) = (eqS xn yn && decide (xcp = ycp) && decide (xcon = ycon) && alikeG Po.same xinsl yinsl && alikeG Po.same xoutsl youtsl && alikeG Se.same xvarsl yvarsl && exsB xtal ytal && alikeG Em.same xemitsl yemitsl && alikeG Se.same xintl yintl && alikeG Se.same xextl yextl && alikeG Se.same xownl yownl && alikeG Pa.same xpartsl ypartsl && alikeG Lk.same xlinksl ylinksl && alikeG Ru.same xrulesl yrulesl) := rfl
  have HE := Lib.hid (show Md.same (.mk xn xcp xinsA xinsc xinsl xoutsA xoutsc xoutsl xvarsA xvarsc xvarsl xtaA xtac xtal xemitsA xemitsc xemitsl xintA xintc xintl xextA xextc xextl xcon xownA xownc xownl xpartsA xpartsc xpartsl xlinksA xlinksc xlinksl xrulesA xrulesc xrulesl) (.mk yn ycp yinsA yinsc yinsl youtsA youtsc youtsl yvarsA yvarsc yvarsl ytaA ytac ytal yemitsA yemitsc yemitsl yintA yintc yintl yextA yextc yextl ycon yownA yownc yownl ypartsA ypartsc ypartsl ylinksA ylinksc ylinksl yrulesA yrulesc yrulesl) = (eqS xn yn && decide (xcp = ycp) && decide (xcon = ycon) && alikeG Po.same xinsl yinsl && alikeG Po.same xoutsl youtsl && alikeG Se.same xvarsl yvarsl && alikeG Se.same xintl yintl && alikeG Se.same xextl yextl && alikeG Se.same xownl yownl && exsB xtal ytal && alikeG Em.same xemitsl yemitsl && alikeG Pa.same xpartsl ypartsl && alikeG Lk.same xlinksl ylinksl && alikeG Ru.same xrulesl yrulesl) from HE0.trans (by ac_rfl))
  clear HE0
  have HC := Lib.hid hC
  clear hC
  obtain ⟨q0, hq0⟩ : ∃ q, alikeG Po.same xinsl yinsl = q := ⟨_, rfl⟩
  rw [hq0] at HE K0 HC
  clear hq0
  obtain ⟨q1, hq1⟩ : ∃ q, alikeG Po.same xoutsl youtsl = q := ⟨_, rfl⟩
  rw [hq1] at HE K1 HC
  clear hq1
  obtain ⟨q2, hq2⟩ : ∃ q, alikeG Se.same xvarsl yvarsl = q := ⟨_, rfl⟩
  rw [hq2] at HE K2 HC
  clear hq2
  obtain ⟨q3, hq3⟩ : ∃ q, alikeG Se.same xintl yintl = q := ⟨_, rfl⟩
  rw [hq3] at HE K3 HC
  clear hq3
  obtain ⟨q4, hq4⟩ : ∃ q, alikeG Se.same xextl yextl = q := ⟨_, rfl⟩
  rw [hq4] at HE K4 HC
  clear hq4
  obtain ⟨q5, hq5⟩ : ∃ q, alikeG Se.same xownl yownl = q := ⟨_, rfl⟩
  rw [hq5] at HE K5 HC
  clear hq5
  obtain ⟨q6, hq6⟩ : ∃ q, exsB xtal ytal = q := ⟨_, rfl⟩
  rw [hq6] at HE K6 HC
  clear hq6
  obtain ⟨qE, hq⟩ : ∃ q, alikeG Em.same xemitsl yemitsl = q := ⟨_, rfl⟩
  rw [hq] at HE
  have HQE := Lib.hid hq
  clear hq
  obtain ⟨qP, hq⟩ : ∃ q, alikeG Pa.same xpartsl ypartsl = q := ⟨_, rfl⟩
  rw [hq] at HE
  have HQP := Lib.hid hq
  clear hq
  obtain ⟨qL, hq⟩ : ∃ q, alikeG Lk.same xlinksl ylinksl = q := ⟨_, rfl⟩
  rw [hq] at HE
  have HQL := Lib.hid hq
  clear hq
  obtain ⟨qR, hq⟩ : ∃ q, alikeG Ru.same xrulesl yrulesl = q := ⟨_, rfl⟩
  rw [hq] at HE
  have HQR := Lib.hid hq
  clear hq
  clear ha hb
  show Calls Tryd.prog 46 #[.agg #[.string xn, .bool xcp, .slice xinsA xinsl.length xinsc, .slice xoutsA xoutsl.length xoutsc, .slice xvarsA xvarsl.length xvarsc, .slice xtaA xtal.length xtac, .slice xemitsA xemitsl.length xemitsc, .slice xintA xintl.length xintc, .slice xextA xextl.length xextc, .int .i64 xcon, .slice xownA xownl.length xownc, .slice xpartsA xpartsl.length xpartsc, .slice xlinksA xlinksl.length xlinksc, .slice xrulesA xrulesl.length xrulesc], .agg #[.string yn, .bool ycp, .slice yinsA yinsl.length yinsc, .slice youtsA youtsl.length youtsc, .slice yvarsA yvarsl.length yvarsc, .slice ytaA ytal.length ytac, .slice yemitsA yemitsl.length yemitsc, .slice yintA yintl.length yintc, .slice yextA yextl.length yextc, .int .i64 ycon, .slice yownA yownl.length yownc, .slice ypartsA ypartsl.length ypartsc, .slice ylinksA ylinksl.length ylinksc, .slice yrulesA yrulesl.length yrulesc]] w fun r w' => r = .returned (.bool (Md.same (.mk xn xcp xinsA xinsc xinsl xoutsA xoutsc xoutsl xvarsA xvarsc xvarsl xtaA xtac xtal xemitsA xemitsc xemitsl xintA xintc xintl xextA xextc xextl xcon xownA xownc xownl xpartsA xpartsc xpartsl xlinksA xlinksc xlinksl xrulesA xrulesc xrulesl) (.mk yn ycp yinsA yinsc yinsl youtsA youtsc youtsl yvarsA yvarsc yvarsl ytaA ytac ytal yemitsA yemitsc yemitsl yintA yintc yintl yextA yextc yextl ycon yownA yownc yownl ypartsA ypartsc ypartsl ylinksA ylinksc ylinksl yrulesA yrulesc yrulesl))) ∧ Only [] w w'
  rw [HE.out]
  clear HE
  have h0 := Blk.new w 70 #[.string xn, .bool xcp, .slice xinsA xinsl.length xinsc, .slice xoutsA xoutsl.length xoutsc, .slice xvarsA xvarsl.length xvarsc, .slice xtaA xtal.length xtac, .slice xemitsA xemitsl.length xemitsc, .slice xintA xintl.length xintc, .slice xextA xextl.length xextc, .int .i64 xcon, .slice xownA xownl.length xownc, .slice xpartsA xpartsl.length xpartsc, .slice xlinksA xlinksl.length xlinksc, .slice xrulesA xrulesl.length xrulesc]
  have h1 := Blk.new (w.alloc (.cells #[.string xn, .bool xcp, .slice xinsA xinsl.length xinsc, .slice xoutsA xoutsl.length xoutsc, .slice xvarsA xvarsl.length xvarsc, .slice xtaA xtal.length xtac, .slice xemitsA xemitsl.length xemitsc, .slice xintA xintl.length xintc, .slice xextA xextl.length xextc, .int .i64 xcon, .slice xownA xownl.length xownc, .slice xpartsA xpartsl.length xpartsc, .slice xlinksA xlinksl.length xlinksc, .slice xrulesA xrulesl.length xrulesc] 70)) 70 #[.string yn, .bool ycp, .slice yinsA yinsl.length yinsc, .slice youtsA youtsl.length youtsc, .slice yvarsA yvarsl.length yvarsc, .slice ytaA ytal.length ytac, .slice yemitsA yemitsl.length yemitsc, .slice yintA yintl.length yintc, .slice yextA yextl.length yextc, .int .i64 ycon, .slice yownA yownl.length yownc, .slice ypartsA ypartsl.length ypartsc, .slice ylinksA ylinksl.length ylinksc, .slice yrulesA yrulesl.length yrulesc]
  simp only [World.size_alloc] at h1
  have HX0 := Lib.hid (show Blk ((w.alloc (.cells #[.string xn, .bool xcp, .slice xinsA xinsl.length xinsc, .slice xoutsA xoutsl.length xoutsc, .slice xvarsA xvarsl.length xvarsc, .slice xtaA xtal.length xtac, .slice xemitsA xemitsl.length xemitsc, .slice xintA xintl.length xintc, .slice xextA xextl.length xextc, .int .i64 xcon, .slice xownA xownl.length xownc, .slice xpartsA xpartsl.length xpartsc, .slice xlinksA xlinksl.length xlinksc, .slice xrulesA xrulesl.length xrulesc] 70)).alloc (.cells #[.string yn, .bool ycp, .slice yinsA yinsl.length yinsc, .slice youtsA youtsl.length youtsc, .slice yvarsA yvarsl.length yvarsc, .slice ytaA ytal.length ytac, .slice yemitsA yemitsl.length yemitsc, .slice yintA yintl.length yintc, .slice yextA yextl.length yextc, .int .i64 ycon, .slice yownA yownl.length yownc, .slice ypartsA ypartsl.length ypartsc, .slice ylinksA ylinksl.length ylinksc, .slice yrulesA yrulesl.length yrulesc] 70)) w.heap.size 70 #[.string xn, .bool xcp, .slice xinsA xinsl.length xinsc, .slice xoutsA xoutsl.length xoutsc, .slice xvarsA xvarsl.length xvarsc, .slice xtaA xtal.length xtac, .slice xemitsA xemitsl.length xemitsc, .slice xintA xintl.length xintc, .slice xextA xextl.length xextc, .int .i64 xcon, .slice xownA xownl.length xownc, .slice xpartsA xpartsl.length xpartsc, .slice xlinksA xlinksl.length xlinksc, .slice xrulesA xrulesl.length xrulesc] from h0.alloc _)
  have HY0 := Lib.hid h1
  have HO0 := Lib.hid (show Only [] w ((w.alloc (.cells #[.string xn, .bool xcp, .slice xinsA xinsl.length xinsc, .slice xoutsA xoutsl.length xoutsc, .slice xvarsA xvarsl.length xvarsc, .slice xtaA xtal.length xtac, .slice xemitsA xemitsl.length xemitsc, .slice xintA xintl.length xintc, .slice xextA xextl.length xextc, .int .i64 xcon, .slice xownA xownl.length xownc, .slice xpartsA xpartsl.length xpartsc, .slice xlinksA xlinksl.length xlinksc, .slice xrulesA xrulesl.length xrulesc] 70)).alloc (.cells #[.string yn, .bool ycp, .slice yinsA yinsl.length yinsc, .slice youtsA youtsl.length youtsc, .slice yvarsA yvarsl.length yvarsc, .slice ytaA ytal.length ytac, .slice yemitsA yemitsl.length yemitsc, .slice yintA yintl.length yintc, .slice yextA yextl.length yextc, .int .i64 ycon, .slice yownA yownl.length yownc, .slice ypartsA ypartsl.length ypartsc, .slice ylinksA ylinksl.length ylinksc, .slice yrulesA yrulesl.length yrulesc] 70)) from ((Only.refl [] w).alloc _).alloc _)
  clear h0 h1
  obtain ⟨bx0, bx1, bx2, bx3, bx4, bx5, bx6, bx7, bx8, bx9, bx10, bx11, bx12, bx13, bxl⟩ := HX0.out.facts14
  obtain ⟨by0, by1, by2, by3, by4, by5, by6, by7, by8, by9, by10, by11, by12, by13, byl⟩ := HY0.out.facts14
  clear bx3 by3 bx4 by4 bx5 by5 bx6 by6 bx7 by7 bx8 by8 bx10 by10 bx11 by11 bx12 by12 bx13 by13
  go_enter Tryd.func46, Tryd.ntmps46
  by_cases e0 : xn.toList = yn.toList
  · have e0b : (xn.toList == yn.toList) = true := by simp [e0]
    by_cases e1 : xcp = ycp
    · subst e1
      by_cases e2 : xcon = ycon
      · subst e2
        go_wp2_with (fail)
        refine (K0.out _ HO0.out).mono ?_
        rintro r w1 ⟨rfl, o1⟩
        have HO1 := Lib.hid (HO0.out.trans o1 (by simp))
        have HX1 := Lib.hid (o1.blk HX0.out (by simp))
        have HY1 := Lib.hid (o1.blk HY0.out (by simp))
        clear o1
        clear bx0 by0 bx1 by1 bx9 by9 bx2 by2 bxl byl
        cases q0
        · go_wp2_with (fail)
          go_ret
          exact ⟨by simp, HO1.out⟩
        · obtain ⟨bx0, bx1, bx2, bx3, bx4, bx5, bx6, bx7, bx8, bx9, bx10, bx11, bx12, bx13, bxl⟩ := HX1.out.facts14
          obtain ⟨by0, by1, by2, by3, by4, by5, by6, by7, by8, by9, by10, by11, by12, by13, byl⟩ := HY1.out.facts14
          clear bx0 by0 bx1 by1 bx2 by2 bx4 by4 bx5 by5 bx6 by6 bx7 by7 bx8 by8 bx9 by9 bx10 by10 bx11 by11 bx12 by12 bx13 by13
          go_wp2_with (fail)
          refine (K1.out _ HO1.out).mono ?_
          rintro r w2 ⟨rfl, o2⟩
          have HO2 := Lib.hid (HO1.out.trans o2 (by simp))
          have HX2 := Lib.hid (o2.blk HX1.out (by simp))
          have HY2 := Lib.hid (o2.blk HY1.out (by simp))
          clear o2
          clear bx3 by3 bxl byl
          cases q1
          · go_wp2_with (fail)
            go_ret
            exact ⟨by simp, HO2.out⟩
          · obtain ⟨bx0, bx1, bx2, bx3, bx4, bx5, bx6, bx7, bx8, bx9, bx10, bx11, bx12, bx13, bxl⟩ := HX2.out.facts14
            obtain ⟨by0, by1, by2, by3, by4, by5, by6, by7, by8, by9, by10, by11, by12, by13, byl⟩ := HY2.out.facts14
            clear bx0 by0 bx1 by1 bx2 by2 bx3 by3 bx5 by5 bx6 by6 bx7 by7 bx8 by8 bx9 by9 bx10 by10 bx11 by11 bx12 by12 bx13 by13
            go_wp2_with (fail)
            refine (K2.out _ HO2.out).mono ?_
            rintro r w3 ⟨rfl, o3⟩
            have HO3 := Lib.hid (HO2.out.trans o3 (by simp))
            have HX3 := Lib.hid (o3.blk HX2.out (by simp))
            have HY3 := Lib.hid (o3.blk HY2.out (by simp))
            clear o3
            clear bx4 by4 bxl byl
            cases q2
            · go_wp2_with (fail)
              go_ret
              exact ⟨by simp, HO3.out⟩
            · obtain ⟨bx0, bx1, bx2, bx3, bx4, bx5, bx6, bx7, bx8, bx9, bx10, bx11, bx12, bx13, bxl⟩ := HX3.out.facts14
              obtain ⟨by0, by1, by2, by3, by4, by5, by6, by7, by8, by9, by10, by11, by12, by13, byl⟩ := HY3.out.facts14
              clear bx0 by0 bx1 by1 bx2 by2 bx3 by3 bx4 by4 bx5 by5 bx6 by6 bx8 by8 bx9 by9 bx10 by10 bx11 by11 bx12 by12 bx13 by13
              go_wp2_with (fail)
              refine (K3.out _ HO3.out).mono ?_
              rintro r w4 ⟨rfl, o4⟩
              have HO4 := Lib.hid (HO3.out.trans o4 (by simp))
              have HX4 := Lib.hid (o4.blk HX3.out (by simp))
              have HY4 := Lib.hid (o4.blk HY3.out (by simp))
              clear o4
              clear bx7 by7 bxl byl
              cases q3
              · go_wp2_with (fail)
                go_ret
                exact ⟨by simp, HO4.out⟩
              · obtain ⟨bx0, bx1, bx2, bx3, bx4, bx5, bx6, bx7, bx8, bx9, bx10, bx11, bx12, bx13, bxl⟩ := HX4.out.facts14
                obtain ⟨by0, by1, by2, by3, by4, by5, by6, by7, by8, by9, by10, by11, by12, by13, byl⟩ := HY4.out.facts14
                clear bx0 by0 bx1 by1 bx2 by2 bx3 by3 bx4 by4 bx5 by5 bx6 by6 bx7 by7 bx9 by9 bx10 by10 bx11 by11 bx12 by12 bx13 by13
                go_wp2_with (fail)
                refine (K4.out _ HO4.out).mono ?_
                rintro r w5 ⟨rfl, o5⟩
                have HO5 := Lib.hid (HO4.out.trans o5 (by simp))
                have HX5 := Lib.hid (o5.blk HX4.out (by simp))
                have HY5 := Lib.hid (o5.blk HY4.out (by simp))
                clear o5
                clear bx8 by8 bxl byl
                cases q4
                · go_wp2_with (fail)
                  go_ret
                  exact ⟨by simp, HO5.out⟩
                · obtain ⟨bx0, bx1, bx2, bx3, bx4, bx5, bx6, bx7, bx8, bx9, bx10, bx11, bx12, bx13, bxl⟩ := HX5.out.facts14
                  obtain ⟨by0, by1, by2, by3, by4, by5, by6, by7, by8, by9, by10, by11, by12, by13, byl⟩ := HY5.out.facts14
                  clear bx0 by0 bx1 by1 bx2 by2 bx3 by3 bx4 by4 bx5 by5 bx6 by6 bx7 by7 bx8 by8 bx9 by9 bx11 by11 bx12 by12 bx13 by13
                  go_wp2_with (fail)
                  refine (K5.out _ HO5.out).mono ?_
                  rintro r w6 ⟨rfl, o6⟩
                  have HO6 := Lib.hid (HO5.out.trans o6 (by simp))
                  have HX6 := Lib.hid (o6.blk HX5.out (by simp))
                  have HY6 := Lib.hid (o6.blk HY5.out (by simp))
                  clear o6
                  clear bx10 by10 bxl byl
                  cases q5
                  · go_wp2_with (fail)
                    go_ret
                    exact ⟨by simp, HO6.out⟩
                  · obtain ⟨bx0, bx1, bx2, bx3, bx4, bx5, bx6, bx7, bx8, bx9, bx10, bx11, bx12, bx13, bxl⟩ := HX6.out.facts14
                    obtain ⟨by0, by1, by2, by3, by4, by5, by6, by7, by8, by9, by10, by11, by12, by13, byl⟩ := HY6.out.facts14
                    clear bx0 by0 bx1 by1 bx2 by2 bx3 by3 bx4 by4 bx6 by6 bx7 by7 bx8 by8 bx9 by9 bx10 by10 bx11 by11 bx12 by12 bx13 by13
                    go_wp2_with (fail)
                    refine (K6.out _ HO6.out).mono ?_
                    rintro r w7 ⟨rfl, o7⟩
                    have HO7 := Lib.hid (HO6.out.trans o7 (by simp))
                    have HX7 := Lib.hid (o7.blk HX6.out (by simp))
                    have HY7 := Lib.hid (o7.blk HY6.out (by simp))
                    clear o7
                    clear bx5 by5 bxl byl
                    cases q6
                    · go_wp2_with (fail)
                      go_ret
                      exact ⟨by simp, HO7.out⟩
                    · exact absurd HC.out (by simp [eqS, e0])
      · have e2b : (xcon == ycon) = false := by simp [e2]
        go_wp2_with (fail)
        go_ret
        exact ⟨by simp, HO0.out⟩
    · have e1b : (xcp == ycp) = false := by simp [e1]
      go_wp2_with (fail)
      go_ret
      exact ⟨by simp [eqS, e0, e1], HO0.out⟩
  · have e0b : (xn.toList == yn.toList) = false := by simp [e0]
    go_wp2_with (fail)
    go_ret
    exact ⟨by simp [eqS, e0], HO0.out⟩
end Go.Proofs.YtfnacnlaphpflaaDoor
