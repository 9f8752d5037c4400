/- Same, the program's. -/
import Derived.Test.YtfnacnlaphpflaaDoorPAlk
import Derived.Test.YtfnacnlaphpflaaDoorTSame
import Derived.Test.YtfnacnlaphpflaaDoorSame
namespace Go.Proofs.YtfnacnlaphpflaaDoor
open Go.RowKit Go.Kx
open Go.Val (Tt)
set_option maxRecDepth 100000
def eqS (a b : ByteArray) : Bool := decide (a.toList = b.toList)
def exsB (us vs : List Ex) : Bool := alikeP (fun a b => a.tr.same b.tr) us vs
def Po.same (a b : Po) : Bool := eqS a.n_ b.n_ && a.t_.tr.same b.t_.tr
def Se.same (a b : Se) : Bool := eqS a.n_ b.n_ && a.e_.tr.same b.e_.tr
def Em.same (a b : Em) : Bool := eqS a.p_ b.p_ && a.e_.tr.same b.e_.tr && exsB a.i_ b.i_
def Pa.same (a b : Pa) : Bool := eqS a.n_ b.n_ && eqS a.m_ b.m_
def Lk.same (a b : Lk) : Bool := eqS a.a_ b.a_ && eqS a.b_ b.b_ && eqS a.c_ b.c_ && eqS a.d_ b.d_
def Ac.same (a b : Ac) : Bool := decide (a.k_ = b.k_) && eqS a.n_ b.n_ && eqS a.m_ b.m_ && eqS a.a_ b.a_ && eqS a.b_ b.b_ && eqS a.c_ b.c_ && eqS a.d_ b.d_
def Ru.same (a b : Ru) : Bool := a.e_.tr.same b.e_.tr && alikeG Ac.same a.s_ b.s_
def Md.same (a b : Md) : Bool := eqS a.n_ b.n_ && decide (a.cp_ = b.cp_) && decide (a.con_ = b.con_) && alikeG Po.same a.ins_ b.ins_ && alikeG Po.same a.outs_ b.outs_ && alikeG Se.same a.vars_ b.vars_ && exsB a.ta_ b.ta_ && alikeG Em.same a.emits_ b.emits_ && alikeG Se.same a.int_ b.int_ && alikeG Se.same a.ext_ b.ext_ && alikeG Se.same a.own_ b.own_ && alikeG Pa.same a.parts_ b.parts_ && alikeG Lk.same a.links_ b.links_ && alikeG Ru.same a.rules_ b.rules_
/-- alike, two programs -/
def sameP (us vs : List Md) (r s : ByteArray) : Bool := eqS r s && alikeG Md.same us vs
theorem eg58 : ∀ args w, (callFunc 58 args).run Tryd.prog w = .ok (.enter 58 args) w := enters Tryd.func58 (by kernel_rfl) rfl
set_option maxHeartbeats 4000000 in
theorem samePo_any {a b : Po} {w : World} (ha : Po.Li w a) (hb : Po.Li w b) : Calls Tryd.prog 58 #[a.val, b.val] w fun r w' => r = .returned (.bool (Po.same a b)) ∧ Only [] w w' := by
  obtain ⟨xn, xtk, xtA, xtc, xtl⟩ := a
  obtain ⟨yn, ytk, ytA, ytc, ytl⟩ := b
  have K0 := Lib.hid (fun W (o : Only [] w W) => (show Calls Tryd.prog 82 #[.agg #[.int .i64 xtk, .slice xtA xtl.length xtc], .agg #[.int .i64 ytk, .slice ytA ytl.length ytc]] W fun r w' => r = .returned (.bool ((Tx.mk xtk xtA xtc xtl).tr.same (Tx.mk ytk ytA ytc ytl).tr)) ∧ Only [] W w' from sameT (.mk xtk xtA xtc xtl) (.mk ytk ytA ytc ytl) W (ha.2.keep o) (hb.2.keep o)))
  have h0 := Blk.new w 95 #[.string xn, .int .i64 xtk, .slice xtA xtl.length xtc]
  have h1 := Blk.new (w.alloc (.cells #[.string xn, .int .i64 xtk, .slice xtA xtl.length xtc] 95)) 95 #[.string yn, .int .i64 ytk, .slice ytA ytl.length ytc]
  simp only [World.size_alloc] at h1
  have HX0 := Lib.hid (show Blk ((w.alloc (.cells #[.string xn, .int .i64 xtk, .slice xtA xtl.length xtc] 95)).alloc (.cells #[.string yn, .int .i64 ytk, .slice ytA ytl.length ytc] 95)) w.heap.size 95 #[.string xn, .int .i64 xtk, .slice xtA xtl.length xtc] from h0.alloc _)
  have HY0 := Lib.hid h1
  have HO0 := Lib.hid (show Only [] w ((w.alloc (.cells #[.string xn, .int .i64 xtk, .slice xtA xtl.length xtc] 95)).alloc (.cells #[.string yn, .int .i64 ytk, .slice ytA ytl.length ytc] 95)) from ((Only.refl [] w).alloc _).alloc _)
  clear h0 h1
  have HE := Lib.hid (show Po.same (.mk xn xtk xtA xtc xtl) (.mk yn ytk ytA ytc ytl) = (eqS xn yn && (Tx.mk xtk xtA xtc xtl).tr.same (Tx.mk ytk ytA ytc ytl).tr) from rfl)
  obtain ⟨q0, hq0⟩ : ∃ q, (Tx.mk xtk xtA xtc xtl).tr.same (Tx.mk ytk ytA ytc ytl).tr = q := ⟨_, rfl⟩
  rw [hq0] at HE K0
  clear hq0
  clear ha hb
  show Calls Tryd.prog 58 #[.agg #[.string xn, .int .i64 xtk, .slice xtA xtl.length xtc], .agg #[.string yn, .int .i64 ytk, .slice ytA ytl.length ytc]] w fun r w' => r = .returned (.bool (Po.same (.mk xn xtk xtA xtc xtl) (.mk yn ytk ytA ytc ytl))) ∧ Only [] w w'
  rw [HE.out]
  clear HE
  obtain ⟨bx0, bx1, bx2, bxl⟩ := HX0.out.facts3
  obtain ⟨by0, by1, by2, byl⟩ := HY0.out.facts3
  go_enter Tryd.func58, Tryd.ntmps58
  by_cases e0 : xn.toList = yn.toList
  · have e0b : (xn.toList == yn.toList) = true := by simp [e0]
    go_wp2_with (fail)
    refine (K0.out _ HO0.out).mono ?_
    rintro r w1 ⟨rfl, o1⟩
    have HO1 := Lib.hid (HO0.out.trans o1 (by simp))
    have HX1 := Lib.hid (o1.blk HX0.out (by simp))
    have HY1 := Lib.hid (o1.blk HY0.out (by simp))
    clear o1
    clear bx0 by0 bx1 by1 bx2 by2 bxl byl
    cases q0
    · go_wp2_with (fail)
      go_ret
      exact ⟨by simp [eqS, e0], HO1.out⟩
    · go_wp2_with (fail)
      go_ret
      exact ⟨by simp [eqS, e0], HO1.out⟩
  · have e0b : (xn.toList == yn.toList) = false := by simp [e0]
    go_wp2_with (fail)
    go_ret
    exact ⟨by simp [eqS, e0], HO0.out⟩
theorem eg60 : ∀ args w, (callFunc 60 args).run Tryd.prog w = .ok (.enter 60 args) w := enters Tryd.func60 (by kernel_rfl) rfl
set_option maxHeartbeats 4000000 in
theorem sameSe_any {a b : Se} {w : World} (ha : Se.Li w a) (hb : Se.Li w b) : Calls Tryd.prog 60 #[a.val, b.val] w fun r w' => r = .returned (.bool (Se.same a b)) ∧ Only [] w w' := by
  obtain ⟨xn, xeo, xen, xes, xeu, xeA, xec, xel⟩ := a
  obtain ⟨yn, yeo, yen, yes, yeu, yeA, yec, yel⟩ := b
  have K0 := Lib.hid (fun W (o : Only [] w W) => (show Calls Tryd.prog 21 #[.agg #[.int .i64 xeo, .int .i64 xen, .string xes, .string xeu, .slice xeA xel.length xec], .agg #[.int .i64 yeo, .int .i64 yen, .string yes, .string yeu, .slice yeA yel.length yec]] W fun r w' => r = .returned (.bool ((Ex.mk xeo xen xes xeu xeA xec xel).tr.same (Ex.mk yeo yen yes yeu yeA yec yel).tr)) ∧ Only [] W w' from same_any (.mk xeo xen xes xeu xeA xec xel) (.mk yeo yen yes yeu yeA yec yel) W (ha.2.keep o) (hb.2.keep o)))
  have h0 := Blk.new w 97 #[.string xn, .int .i64 xeo, .int .i64 xen, .string xes, .string xeu, .slice xeA xel.length xec]
  have h1 := Blk.new (w.alloc (.cells #[.string xn, .int .i64 xeo, .int .i64 xen, .string xes, .string xeu, .slice xeA xel.length xec] 97)) 97 #[.string yn, .int .i64 yeo, .int .i64 yen, .string yes, .string yeu, .slice yeA yel.length yec]
  simp only [World.size_alloc] at h1
  have HX0 := Lib.hid (show Blk ((w.alloc (.cells #[.string xn, .int .i64 xeo, .int .i64 xen, .string xes, .string xeu, .slice xeA xel.length xec] 97)).alloc (.cells #[.string yn, .int .i64 yeo, .int .i64 yen, .string yes, .string yeu, .slice yeA yel.length yec] 97)) w.heap.size 97 #[.string xn, .int .i64 xeo, .int .i64 xen, .string xes, .string xeu, .slice xeA xel.length xec] from h0.alloc _)
  have HY0 := Lib.hid h1
  have HO0 := Lib.hid (show Only [] w ((w.alloc (.cells #[.string xn, .int .i64 xeo, .int .i64 xen, .string xes, .string xeu, .slice xeA xel.length xec] 97)).alloc (.cells #[.string yn, .int .i64 yeo, .int .i64 yen, .string yes, .string yeu, .slice yeA yel.length yec] 97)) from ((Only.refl [] w).alloc _).alloc _)
  clear h0 h1
  have HE := Lib.hid (show Se.same (.mk xn xeo xen xes xeu xeA xec xel) (.mk yn yeo yen yes yeu yeA yec yel) = (eqS xn yn && (Ex.mk xeo xen xes xeu xeA xec xel).tr.same (Ex.mk yeo yen yes yeu yeA yec yel).tr) from rfl)
  obtain ⟨q0, hq0⟩ : ∃ q, (Ex.mk xeo xen xes xeu xeA xec xel).tr.same (Ex.mk yeo yen yes yeu yeA yec yel).tr = q := ⟨_, rfl⟩
  rw [hq0] at HE K0
  clear hq0
  clear ha hb
  show Calls Tryd.prog 60 #[.agg #[.string xn, .int .i64 xeo, .int .i64 xen, .string xes, .string xeu, .slice xeA xel.length xec], .agg #[.string yn, .int .i64 yeo, .int .i64 yen, .string yes, .string yeu, .slice yeA yel.length yec]] w fun r w' => r = .returned (.bool (Se.same (.mk xn xeo xen xes xeu xeA xec xel) (.mk yn yeo yen yes yeu yeA yec yel))) ∧ Only [] w w'
  rw [HE.out]
  clear HE
  obtain ⟨bx0, bx1, bx2, bx3, bx4, bx5, bxl⟩ := HX0.out.facts6
  obtain ⟨by0, by1, by2, by3, by4, by5, byl⟩ := HY0.out.facts6
  go_enter Tryd.func60, Tryd.ntmps60
  by_cases e0 : xn.toList = yn.toList
  · have e0b : (xn.toList == yn.toList) = true := by simp [e0]
    go_wp2_with (fail)
    refine (K0.out _ HO0.out).mono ?_
    rintro r w1 ⟨rfl, o1⟩
    have HO1 := Lib.hid (HO0.out.trans o1 (by simp))
    have HX1 := Lib.hid (o1.blk HX0.out (by simp))
    have HY1 := Lib.hid (o1.blk HY0.out (by simp))
    clear o1
    clear bx0 by0 bx1 by1 bx2 by2 bx3 by3 bx4 by4 bx5 by5 bxl byl
    cases q0
    · go_wp2_with (fail)
      go_ret
      exact ⟨by simp [eqS, e0], HO1.out⟩
    · go_wp2_with (fail)
      go_ret
      exact ⟨by simp [eqS, e0], HO1.out⟩
  · have e0b : (xn.toList == yn.toList) = false := by simp [e0]
    go_wp2_with (fail)
    go_ret
    exact ⟨by simp [eqS, e0], HO0.out⟩
theorem eg62 : ∀ args w, (callFunc 62 args).run Tryd.prog w = .ok (.enter 62 args) w := enters Tryd.func62 (by kernel_rfl) rfl
set_option maxHeartbeats 4000000 in
theorem sameEm_any {a b : Em} {w : World} (ha : Em.Li w a) (hb : Em.Li w b) : Calls Tryd.prog 62 #[a.val, b.val] w fun r w' => r = .returned (.bool (Em.same a b)) ∧ Only [] w w' := by
  obtain ⟨xp, xeo, xen, xes, xeu, xeA, xec, xel, xiA, xic, xil⟩ := a
  obtain ⟨yp, yeo, yen, yes, yeu, yeA, yec, yel, yiA, yic, yil⟩ := b
  have K1 := Lib.hid (fun W (o : Only [] w W) => (show Calls Tryd.prog 40 #[.slice xiA xil.length xic, .slice yiA yil.length yic, .func (.func 21) #[] #[]] W fun r w' => r = .returned (.bool (exsB xil yil)) ∧ Only [] W w' from alike40 21 (fun a b => a.tr.same b.tr) eg21 (ca := xic) (cb := yic) (ha.2.2.keep o) (hb.2.2.keep o) (fun a _ b w' h1 h2 => same_any a b w' h1 h2)))
  have K0 := Lib.hid (fun W (o : Only [] w W) => (show Calls Tryd.prog 21 #[.agg #[.int .i64 xeo, .int .i64 xen, .string xes, .string xeu, .slice xeA xel.length xec], .agg #[.int .i64 yeo, .int .i64 yen, .string yes, .string yeu, .slice yeA yel.length yec]] W fun r w' => r = .returned (.bool ((Ex.mk xeo xen xes xeu xeA xec xel).tr.same (Ex.mk yeo yen yes yeu yeA yec yel).tr)) ∧ Only [] W w' from same_any (.mk xeo xen xes xeu xeA xec xel) (.mk yeo yen yes yeu yeA yec yel) W (ha.2.1.keep o) (hb.2.1.keep o)))
  have h0 := Blk.new w 74 #[.string xp, .int .i64 xeo, .int .i64 xen, .string xes, .string xeu, .slice xeA xel.length xec, .slice xiA xil.length xic]
  have h1 := Blk.new (w.alloc (.cells #[.string xp, .int .i64 xeo, .int .i64 xen, .string xes, .string xeu, .slice xeA xel.length xec, .slice xiA xil.length xic] 74)) 74 #[.string yp, .int .i64 yeo, .int .i64 yen, .string yes, .string yeu, .slice yeA yel.length yec, .slice yiA yil.length yic]
  simp only [World.size_alloc] at h1
  have HX0 := Lib.hid (show Blk ((w.alloc (.cells #[.string xp, .int .i64 xeo, .int .i64 xen, .string xes, .string xeu, .slice xeA xel.length xec, .slice xiA xil.length xic] 74)).alloc (.cells #[.string yp, .int .i64 yeo, .int .i64 yen, .string yes, .string yeu, .slice yeA yel.length yec, .slice yiA yil.length yic] 74)) w.heap.size 74 #[.string xp, .int .i64 xeo, .int .i64 xen, .string xes, .string xeu, .slice xeA xel.length xec, .slice xiA xil.length xic] from h0.alloc _)
  have HY0 := Lib.hid h1
  have HO0 := Lib.hid (show Only [] w ((w.alloc (.cells #[.string xp, .int .i64 xeo, .int .i64 xen, .string xes, .string xeu, .slice xeA xel.length xec, .slice xiA xil.length xic] 74)).alloc (.cells #[.string yp, .int .i64 yeo, .int .i64 yen, .string yes, .string yeu, .slice yeA yel.length yec, .slice yiA yil.length yic] 74)) from ((Only.refl [] w).alloc _).alloc _)
  clear h0 h1
  have HE := Lib.hid (show Em.same (.mk xp xeo xen xes xeu xeA xec xel xiA xic xil) (.mk yp yeo yen yes yeu yeA yec yel yiA yic yil) = (eqS xp yp && (Ex.mk xeo xen xes xeu xeA xec xel).tr.same (Ex.mk yeo yen yes yeu yeA yec yel).tr && exsB xil yil) from rfl)
  obtain ⟨q0, hq0⟩ : ∃ q, (Ex.mk xeo xen xes xeu xeA xec xel).tr.same (Ex.mk yeo yen yes yeu yeA yec yel).tr = q := ⟨_, rfl⟩
  rw [hq0] at HE K0
  clear hq0
  obtain ⟨q1, hq1⟩ : ∃ q, exsB xil yil = q := ⟨_, rfl⟩
  rw [hq1] at HE K1
  clear hq1
  clear ha hb
  show Calls Tryd.prog 62 #[.agg #[.string xp, .int .i64 xeo, .int .i64 xen, .string xes, .string xeu, .slice xeA xel.length xec, .slice xiA xil.length xic], .agg #[.string yp, .int .i64 yeo, .int .i64 yen, .string yes, .string yeu, .slice yeA yel.length yec, .slice yiA yil.length yic]] w fun r w' => r = .returned (.bool (Em.same (.mk xp xeo xen xes xeu xeA xec xel xiA xic xil) (.mk yp yeo yen yes yeu yeA yec yel yiA yic yil))) ∧ Only [] w w'
  rw [HE.out]
  clear HE
  obtain ⟨bx0, bx1, bx2, bx3, bx4, bx5, bx6, bxl⟩ := HX0.out.facts7
  obtain ⟨by0, by1, by2, by3, by4, by5, by6, byl⟩ := HY0.out.facts7
  clear bx6 by6
  go_enter Tryd.func62, Tryd.ntmps62
  by_cases e0 : xp.toList = yp.toList
  · have e0b : (xp.toList == yp.toList) = true := by simp [e0]
    go_wp2_with (fail)
    refine (K0.out _ HO0.out).mono ?_
    rintro r w1 ⟨rfl, o1⟩
    have HO1 := Lib.hid (HO0.out.trans o1 (by simp))
    have HX1 := Lib.hid (o1.blk HX0.out (by simp))
    have HY1 := Lib.hid (o1.blk HY0.out (by simp))
    clear o1
    clear bx0 by0 bx1 by1 bx2 by2 bx3 by3 bx4 by4 bx5 by5 bxl byl
    cases q0
    · go_wp2_with (fail)
      go_ret
      exact ⟨by simp [eqS, e0], HO1.out⟩
    · obtain ⟨bx0, bx1, bx2, bx3, bx4, bx5, bx6, bxl⟩ := HX1.out.facts7
      obtain ⟨by0, by1, by2, by3, by4, by5, by6, byl⟩ := HY1.out.facts7
      clear bx0 by0 bx1 by1 bx2 by2 bx3 by3 bx4 by4 bx5 by5
      go_wp2_with (fail)
      refine (K1.out _ HO1.out).mono ?_
      rintro r w2 ⟨rfl, o2⟩
      have HO2 := Lib.hid (HO1.out.trans o2 (by simp))
      have HX2 := Lib.hid (o2.blk HX1.out (by simp))
      have HY2 := Lib.hid (o2.blk HY1.out (by simp))
      clear o2
      clear bx6 by6 bxl byl
      cases q1
      · go_wp2_with (fail)
        go_ret
        exact ⟨by simp [eqS, e0], HO2.out⟩
      · go_wp2_with (fail)
        go_ret
        exact ⟨by simp [eqS, e0], HO2.out⟩
  · have e0b : (xp.toList == yp.toList) = false := by simp [e0]
    go_wp2_with (fail)
    go_ret
    exact ⟨by simp [eqS, e0], HO0.out⟩
theorem eq_Pa (xn : ByteArray) (xm : ByteArray) (yn : ByteArray) (ym : ByteArray) (W : World) : (binOp .eql 106 (.agg #[.string xn, .string xm]) (.agg #[.string yn, .string ym])).run Tryd.prog W = .ok (.bool (eqS xn yn && eqS xm ym)) W := by
  unfold eqS
  by_cases h0 : xn.toList = yn.toList
  · by_cases h1 : xm.toList = ym.toList
    · simp [go_sem, h0, h1]
    · simp [go_sem, h0, h1]
  · simp [go_sem, h0]
theorem eg64 : ∀ args w, (callFunc 64 args).run Tryd.prog w = .ok (.enter 64 args) w := enters Tryd.func64 (by kernel_rfl) rfl
set_option maxHeartbeats 4000000 in
theorem samePa_any {a b : Pa} {w : World} (ha : Pa.Li w a) (hb : Pa.Li w b) : Calls Tryd.prog 64 #[a.val, b.val] w fun r w' => r = .returned (.bool (Pa.same a b)) ∧ Only [] w w' := by
  obtain ⟨xn, xm⟩ := a
  obtain ⟨yn, ym⟩ := b
  have h0 := Blk.new w 106 #[.string xn, .string xm]
  have h1 := Blk.new (w.alloc (.cells #[.string xn, .string xm] 106)) 106 #[.string yn, .string ym]
  simp only [World.size_alloc] at h1
  have HX0 := Lib.hid (show Blk ((w.alloc (.cells #[.string xn, .string xm] 106)).alloc (.cells #[.string yn, .string ym] 106)) w.heap.size 106 #[.string xn, .string xm] from h0.alloc _)
  have HY0 := Lib.hid h1
  have HO0 := Lib.hid (show Only [] w ((w.alloc (.cells #[.string xn, .string xm] 106)).alloc (.cells #[.string yn, .string ym] 106)) from ((Only.refl [] w).alloc _).alloc _)
  clear h0 h1
  clear ha hb
  show Calls Tryd.prog 64 #[.agg #[.string xn, .string xm], .agg #[.string yn, .string ym]] w fun r w' => r = .returned (.bool (eqS xn yn && eqS xm ym)) ∧ Only [] w w'
  obtain ⟨bx0, bx1, bxl⟩ := HX0.out.facts2
  obtain ⟨by0, by1, byl⟩ := HY0.out.facts2
  have heq := eq_Pa xn xm yn ym
  go_enter Tryd.func64, Tryd.ntmps64
  go_wp2_with (fail)
  go_ret
  exact ⟨rfl, HO0.out⟩
theorem eq_Lk (xa : ByteArray) (xb : ByteArray) (xc : ByteArray) (xd : ByteArray) (ya : ByteArray) (yb : ByteArray) (yc : ByteArray) (yd : ByteArray) (W : World) : (binOp .eql 112 (.agg #[.string xa, .string xb, .string xc, .string xd]) (.agg #[.string ya, .string yb, .string yc, .string yd])).run Tryd.prog W = .ok (.bool (eqS xa ya && eqS xb yb && eqS xc yc && eqS xd yd)) W := by
  unfold eqS
  by_cases h0 : xa.toList = ya.toList
  · by_cases h1 : xb.toList = yb.toList
    · by_cases h2 : xc.toList = yc.toList
      · by_cases h3 : xd.toList = yd.toList
        · simp [go_sem, h0, h1, h2, h3]
        · simp [go_sem, h0, h1, h2, h3]
      · simp [go_sem, h0, h1, h2]
    · simp [go_sem, h0, h1]
  · simp [go_sem, h0]
theorem eg66 : ∀ args w, (callFunc 66 args).run Tryd.prog w = .ok (.enter 66 args) w := enters Tryd.func66 (by kernel_rfl) rfl
set_option maxHeartbeats 4000000 in
theorem sameLk_any {a b : Lk} {w : World} (ha : Lk.Li w a) (hb : Lk.Li w b) : Calls Tryd.prog 66 #[a.val, b.val] w fun r w' => r = .returned (.bool (Lk.same a b)) ∧ Only [] w w' := by
  obtain ⟨xa, xb, xc, xd⟩ := a
  obtain ⟨ya, yb, yc, yd⟩ := b
  have h0 := Blk.new w 112 #[.string xa, .string xb, .string xc, .string xd]
  have h1 := Blk.new (w.alloc (.cells #[.string xa, .string xb, .string xc, .string xd] 112)) 112 #[.string ya, .string yb, .string yc, .string yd]
  simp only [World.size_alloc] at h1
  have HX0 := Lib.hid (show Blk ((w.alloc (.cells #[.string xa, .string xb, .string xc, .string xd] 112)).alloc (.cells #[.string ya, .string yb, .string yc, .string yd] 112)) w.heap.size 112 #[.string xa, .string xb, .string xc, .string xd] from h0.alloc _)
  have HY0 := Lib.hid h1
  have HO0 := Lib.hid (show Only [] w ((w.alloc (.cells #[.string xa, .string xb, .string xc, .string xd] 112)).alloc (.cells #[.string ya, .string yb, .string yc, .string yd] 112)) from ((Only.refl [] w).alloc _).alloc _)
  clear h0 h1
  clear ha hb
  show Calls Tryd.prog 66 #[.agg #[.string xa, .string xb, .string xc, .string xd], .agg #[.string ya, .string yb, .string yc, .string yd]] w fun r w' => r = .returned (.bool (eqS xa ya && eqS xb yb && eqS xc yc && eqS xd yd)) ∧ Only [] w w'
  obtain ⟨bx0, bx1, bx2, bx3, bxl⟩ := HX0.out.facts4
  obtain ⟨by0, by1, by2, by3, byl⟩ := HY0.out.facts4
  have heq := eq_Lk xa xb xc xd ya yb yc yd
  go_enter Tryd.func66, Tryd.ntmps66
  go_wp2_with (fail)
  go_ret
  exact ⟨rfl, HO0.out⟩
theorem eq_Ac (xk : Int) (xn : ByteArray) (xm : ByteArray) (xa : ByteArray) (xb : ByteArray) (xc : ByteArray) (xd : ByteArray) (yk : Int) (yn : ByteArray) (ym : ByteArray) (ya : ByteArray) (yb : ByteArray) (yc : ByteArray) (yd : ByteArray) (W : World) : (binOp .eql 120 (.agg #[.int .i64 xk, .string xn, .string xm, .string xa, .string xb, .string xc, .string xd]) (.agg #[.int .i64 yk, .string yn, .string ym, .string ya, .string yb, .string yc, .string yd])).run Tryd.prog W = .ok (.bool (decide (xk = yk) && eqS xn yn && eqS xm ym && eqS xa ya && eqS xb yb && eqS xc yc && eqS xd yd)) W := by
  unfold eqS
  by_cases h0 : xk = yk
  · by_cases h1 : xn.toList = yn.toList
    · by_cases h2 : xm.toList = ym.toList
      · by_cases h3 : xa.toList = ya.toList
        · by_cases h4 : xb.toList = yb.toList
          · by_cases h5 : xc.toList = yc.toList
            · by_cases h6 : xd.toList = yd.toList
              · simp [go_sem, h0, h1, h2, h3, h4, h5, h6]
              · simp [go_sem, h0, h1, h2, h3, h4, h5, h6]
            · simp [go_sem, h0, h1, h2, h3, h4, h5]
          · simp [go_sem, h0, h1, h2, h3, h4]
        · simp [go_sem, h0, h1, h2, h3]
      · simp [go_sem, h0, h1, h2]
    · simp [go_sem, h0, h1]
  · simp [go_sem, h0]
theorem eg84 : ∀ args w, (callFunc 84 args).run Tryd.prog w = .ok (.enter 84 args) w := enters Tryd.func84 (by kernel_rfl) rfl
set_option maxHeartbeats 4000000 in
theorem sameAc_any {a b : Ac} {w : World} (ha : Ac.Li w a) (hb : Ac.Li w b) : Calls Tryd.prog 84 #[a.val, b.val] w fun r w' => r = .returned (.bool (Ac.same a b)) ∧ Only [] w w' := by
  obtain ⟨xk, xn, xm, xa, xb, xc, xd⟩ := a
  obtain ⟨yk, yn, ym, ya, yb, yc, yd⟩ := b
  have h0 := Blk.new w 120 #[.int .i64 xk, .string xn, .string xm, .string xa, .string xb, .string xc, .string xd]
  have h1 := Blk.new (w.alloc (.cells #[.int .i64 xk, .string xn, .string xm, .string xa, .string xb, .string xc, .string xd] 120)) 120 #[.int .i64 yk, .string yn, .string ym, .string ya, .string yb, .string yc, .string yd]
  simp only [World.size_alloc] at h1
  have HX0 := Lib.hid (show Blk ((w.alloc (.cells #[.int .i64 xk, .string xn, .string xm, .string xa, .string xb, .string xc, .string xd] 120)).alloc (.cells #[.int .i64 yk, .string yn, .string ym, .string ya, .string yb, .string yc, .string yd] 120)) w.heap.size 120 #[.int .i64 xk, .string xn, .string xm, .string xa, .string xb, .string xc, .string xd] from h0.alloc _)
  have HY0 := Lib.hid h1
  have HO0 := Lib.hid (show Only [] w ((w.alloc (.cells #[.int .i64 xk, .string xn, .string xm, .string xa, .string xb, .string xc, .string xd] 120)).alloc (.cells #[.int .i64 yk, .string yn, .string ym, .string ya, .string yb, .string yc, .string yd] 120)) from ((Only.refl [] w).alloc _).alloc _)
  clear h0 h1
  clear ha hb
  show Calls Tryd.prog 84 #[.agg #[.int .i64 xk, .string xn, .string xm, .string xa, .string xb, .string xc, .string xd], .agg #[.int .i64 yk, .string yn, .string ym, .string ya, .string yb, .string yc, .string yd]] w fun r w' => r = .returned (.bool (decide (xk = yk) && eqS xn yn && eqS xm ym && eqS xa ya && eqS xb yb && eqS xc yc && eqS xd yd)) ∧ Only [] w w'
  obtain ⟨bx0, bx1, bx2, bx3, bx4, bx5, bx6, bxl⟩ := HX0.out.facts7
  obtain ⟨by0, by1, by2, by3, by4, by5, by6, byl⟩ := HY0.out.facts7
  have heq := eq_Ac xk xn xm xa xb xc xd yk yn ym ya yb yc yd
  go_enter Tryd.func84, Tryd.ntmps84
  go_wp2_with (fail)
  go_ret
  exact ⟨rfl, HO0.out⟩
theorem eg68 : ∀ args w, (callFunc 68 args).run Tryd.prog w = .ok (.enter 68 args) w := enters Tryd.func68 (by kernel_rfl) rfl
set_option maxHeartbeats 4000000 in
theorem sameRu_any {a b : Ru} {w : World} (ha : Ru.Li w a) (hb : Ru.Li w b) : Calls Tryd.prog 68 #[a.val, b.val] w fun r w' => r = .returned (.bool (Ru.same a b)) ∧ Only [] w w' := by
  obtain ⟨xeo, xen, xes, xeu, xeA, xec, xel, xsA, xsc, xsl⟩ := a
  obtain ⟨yeo, yen, yes, yeu, yeA, yec, yel, ysA, ysc, ysl⟩ := b
  have K1 := Lib.hid (fun W (o : Only [] w W) => (show Calls Tryd.prog 83 #[.slice xsA xsl.length xsc, .slice ysA ysl.length ysc, .func (.func 84) #[] #[]] W fun r w' => r = .returned (.bool (alikeG Ac.same xsl ysl)) ∧ Only [] W w' from alike_Ac 84 Ac.same eg84 (ca := xsc) (cb := ysc) (ha.2.keep Ac.Li.keep o) (hb.2.keep Ac.Li.keep o) (fun a _ b _ w' h1 h2 => sameAc_any h1 h2)))
  have K0 := Lib.hid (fun W (o : Only [] w W) => (show Calls Tryd.prog 21 #[.agg #[.int .i64 xeo, .int .i64 xen, .string xes, .string xeu, .slice xeA xel.length xec], .agg #[.int .i64 yeo, .int .i64 yen, .string yes, .string yeu, .slice yeA yel.length yec]] W fun r w' => r = .returned (.bool ((Ex.mk xeo xen xes xeu xeA xec xel).tr.same (Ex.mk yeo yen yes yeu yeA yec yel).tr)) ∧ Only [] W w' from same_any (.mk xeo xen xes xeu xeA xec xel) (.mk yeo yen yes yeu yeA yec yel) W (ha.1.keep o) (hb.1.keep o)))
  have h0 := Blk.new w 77 #[.int .i64 xeo, .int .i64 xen, .string xes, .string xeu, .slice xeA xel.length xec, .slice xsA xsl.length xsc]
  have h1 := Blk.new (w.alloc (.cells #[.int .i64 xeo, .int .i64 xen, .string xes, .string xeu, .slice xeA xel.length xec, .slice xsA xsl.length xsc] 77)) 77 #[.int .i64 yeo, .int .i64 yen, .string yes, .string yeu, .slice yeA yel.length yec, .slice ysA ysl.length ysc]
  simp only [World.size_alloc] at h1
  have HX0 := Lib.hid (show Blk ((w.alloc (.cells #[.int .i64 xeo, .int .i64 xen, .string xes, .string xeu, .slice xeA xel.length xec, .slice xsA xsl.length xsc] 77)).alloc (.cells #[.int .i64 yeo, .int .i64 yen, .string yes, .string yeu, .slice yeA yel.length yec, .slice ysA ysl.length ysc] 77)) w.heap.size 77 #[.int .i64 xeo, .int .i64 xen, .string xes, .string xeu, .slice xeA xel.length xec, .slice xsA xsl.length xsc] from h0.alloc _)
  have HY0 := Lib.hid h1
  have HO0 := Lib.hid (show Only [] w ((w.alloc (.cells #[.int .i64 xeo, .int .i64 xen, .string xes, .string xeu, .slice xeA xel.length xec, .slice xsA xsl.length xsc] 77)).alloc (.cells #[.int .i64 yeo, .int .i64 yen, .string yes, .string yeu, .slice yeA yel.length yec, .slice ysA ysl.length ysc] 77)) from ((Only.refl [] w).alloc _).alloc _)
  clear h0 h1
  have HE := Lib.hid (show Ru.same (.mk xeo xen xes xeu xeA xec xel xsA xsc xsl) (.mk yeo yen yes yeu yeA yec yel ysA ysc ysl) = ((Ex.mk xeo xen xes xeu xeA xec xel).tr.same (Ex.mk yeo yen yes yeu yeA yec yel).tr && alikeG Ac.same xsl ysl) from rfl)
  obtain ⟨q0, hq0⟩ : ∃ q, (Ex.mk xeo xen xes xeu xeA xec xel).tr.same (Ex.mk yeo yen yes yeu yeA yec yel).tr = q := ⟨_, rfl⟩
  rw [hq0] at HE K0
  clear hq0
  obtain ⟨q1, hq1⟩ : ∃ q, alikeG Ac.same xsl ysl = q := ⟨_, rfl⟩
  rw [hq1] at HE K1
  clear hq1
  clear ha hb
  show Calls Tryd.prog 68 #[.agg #[.int .i64 xeo, .int .i64 xen, .string xes, .string xeu, .slice xeA xel.length xec, .slice xsA xsl.length xsc], .agg #[.int .i64 yeo, .int .i64 yen, .string yes, .string yeu, .slice yeA yel.length yec, .slice ysA ysl.length ysc]] w fun r w' => r = .returned (.bool (Ru.same (.mk xeo xen xes xeu xeA xec xel xsA xsc xsl) (.mk yeo yen yes yeu yeA yec yel ysA ysc ysl))) ∧ Only [] w w'
  rw [HE.out]
  clear HE
  obtain ⟨bx0, bx1, bx2, bx3, bx4, bx5, bxl⟩ := HX0.out.facts6
  obtain ⟨by0, by1, by2, by3, by4, by5, byl⟩ := HY0.out.facts6
  clear bx5 by5
  go_enter Tryd.func68, Tryd.ntmps68
  go_wp2_with (fail)
  refine (K0.out _ HO0.out).mono ?_
  rintro r w1 ⟨rfl, o1⟩
  have HO1 := Lib.hid (HO0.out.trans o1 (by simp))
  have HX1 := Lib.hid (o1.blk HX0.out (by simp))
  have HY1 := Lib.hid (o1.blk HY0.out (by simp))
  clear o1
  clear bx0 by0 bx1 by1 bx2 by2 bx3 by3 bx4 by4 bxl byl
  cases q0
  · go_wp2_with (fail)
    go_ret
    exact ⟨by simp, HO1.out⟩
  · obtain ⟨bx0, bx1, bx2, bx3, bx4, bx5, bxl⟩ := HX1.out.facts6
    obtain ⟨by0, by1, by2, by3, by4, by5, byl⟩ := HY1.out.facts6
    clear bx0 by0 bx1 by1 bx2 by2 bx3 by3 bx4 by4
    go_wp2_with (fail)
    refine (K1.out _ HO1.out).mono ?_
    rintro r w2 ⟨rfl, o2⟩
    have HO2 := Lib.hid (HO1.out.trans o2 (by simp))
    have HX2 := Lib.hid (o2.blk HX1.out (by simp))
    have HY2 := Lib.hid (o2.blk HY1.out (by simp))
    clear o2
    clear bx5 by5 bxl byl
    cases q1
    · go_wp2_with (fail)
      go_ret
      exact ⟨by simp, HO2.out⟩
    · go_wp2_with (fail)
      go_ret
      exact ⟨by simp, HO2.out⟩
theorem eg45 : ∀ args w, (callFunc 45 args).run Tryd.prog w = .ok (.enter 45 args) w := enters Tryd.func45 (by kernel_rfl) rfl
set_option maxHeartbeats 4000000 in
theorem sameMd_any {a b : Md} {w : World} (ha : Md.Li w a) (hb : Md.Li w b) : Calls Tryd.prog 45 #[a.val, b.val] w fun r w' => r = .returned (.bool (Md.same a b)) ∧ Only [] w w' := by
  obtain ⟨xn, xcp, xinsA, xinsc, xinsl, xoutsA, xoutsc, xoutsl, xvarsA, xvarsc, xvarsl, xtaA, xtac, xtal, xemitsA, xemitsc, xemitsl, xintA, xintc, xintl, xextA, xextc, xextl, xcon, xownA, xownc, xownl, xpartsA, xpartsc, xpartsl, xlinksA, xlinksc, xlinksl, xrulesA, xrulesc, xrulesl⟩ := a
  obtain ⟨yn, ycp, yinsA, yinsc, yinsl, youtsA, youtsc, youtsl, yvarsA, yvarsc, yvarsl, ytaA, ytac, ytal, yemitsA, yemitsc, yemitsl, yintA, yintc, yintl, yextA, yextc, yextl, ycon, yownA, yownc, yownl, ypartsA, ypartsc, ypartsl, ylinksA, ylinksc, ylinksl, yrulesA, yrulesc, yrulesl⟩ := b
  have K10 := Lib.hid (fun W (o : Only [] w W) => (show Calls Tryd.prog 67 #[.slice xrulesA xrulesl.length xrulesc, .slice yrulesA yrulesl.length yrulesc, .func (.func 68) #[] #[]] W fun r w' => r = .returned (.bool (alikeG Ru.same xrulesl yrulesl)) ∧ Only [] W w' from alike_Ru 68 Ru.same eg68 (ca := xrulesc) (cb := yrulesc) (ha.2.2.2.2.2.2.2.2.2.2.2.2.2.keep Ru.Li.keep o) (hb.2.2.2.2.2.2.2.2.2.2.2.2.2.keep Ru.Li.keep o) (fun a _ b _ w' h1 h2 => sameRu_any h1 h2)))
  have K9 := Lib.hid (fun W (o : Only [] w W) => (show Calls Tryd.prog 65 #[.slice xlinksA xlinksl.length xlinksc, .slice ylinksA ylinksl.length ylinksc, .func (.func 66) #[] #[]] W fun r w' => r = .returned (.bool (alikeG Lk.same xlinksl ylinksl)) ∧ Only [] W w' from alike_Lk 66 Lk.same eg66 (ca := xlinksc) (cb := ylinksc) (ha.2.2.2.2.2.2.2.2.2.2.2.2.1.keep Lk.Li.keep o) (hb.2.2.2.2.2.2.2.2.2.2.2.2.1.keep Lk.Li.keep o) (fun a _ b _ w' h1 h2 => sameLk_any h1 h2)))
  have K8 := Lib.hid (fun W (o : Only [] w W) => (show Calls Tryd.prog 63 #[.slice xpartsA xpartsl.length xpartsc, .slice ypartsA ypartsl.length ypartsc, .func (.func 64) #[] #[]] W fun r w' => r = .returned (.bool (alikeG Pa.same xpartsl ypartsl)) ∧ Only [] W w' from alike_Pa 64 Pa.same eg64 (ca := xpartsc) (cb := ypartsc) (ha.2.2.2.2.2.2.2.2.2.2.2.1.keep Pa.Li.keep o) (hb.2.2.2.2.2.2.2.2.2.2.2.1.keep Pa.Li.keep o) (fun a _ b _ w' h1 h2 => samePa_any h1 h2)))
  have K7 := Lib.hid (fun W (o : Only [] w W) => (show Calls Tryd.prog 59 #[.slice xownA xownl.length xownc, .slice yownA yownl.length yownc, .func (.func 60) #[] #[]] W fun r w' => r = .returned (.bool (alikeG Se.same xownl yownl)) ∧ Only [] W w' from alike_Se 60 Se.same eg60 (ca := xownc) (cb := yownc) (ha.2.2.2.2.2.2.2.2.2.2.1.keep Se.Li.keep o) (hb.2.2.2.2.2.2.2.2.2.2.1.keep Se.Li.keep o) (fun a _ b _ w' h1 h2 => sameSe_any h1 h2)))
  have K6 := Lib.hid (fun W (o : Only [] w W) => (show Calls Tryd.prog 59 #[.slice xextA xextl.length xextc, .slice yextA yextl.length yextc, .func (.func 60) #[] #[]] W fun r w' => r = .returned (.bool (alikeG Se.same xextl yextl)) ∧ Only [] W w' from alike_Se 60 Se.same eg60 (ca := xextc) (cb := yextc) (ha.2.2.2.2.2.2.2.2.1.keep Se.Li.keep o) (hb.2.2.2.2.2.2.2.2.1.keep Se.Li.keep o) (fun a _ b _ w' h1 h2 => sameSe_any h1 h2)))
  have K5 := Lib.hid (fun W (o : Only [] w W) => (show Calls Tryd.prog 59 #[.slice xintA xintl.length xintc, .slice yintA yintl.length yintc, .func (.func 60) #[] #[]] W fun r w' => r = .returned (.bool (alikeG Se.same xintl yintl)) ∧ Only [] W w' from alike_Se 60 Se.same eg60 (ca := xintc) (cb := yintc) (ha.2.2.2.2.2.2.2.1.keep Se.Li.keep o) (hb.2.2.2.2.2.2.2.1.keep Se.Li.keep o) (fun a _ b _ w' h1 h2 => sameSe_any h1 h2)))
  have K4 := Lib.hid (fun W (o : Only [] w W) => (show Calls Tryd.prog 61 #[.slice xemitsA xemitsl.length xemitsc, .slice yemitsA yemitsl.length yemitsc, .func (.func 62) #[] #[]] W fun r w' => r = .returned (.bool (alikeG Em.same xemitsl yemitsl)) ∧ Only [] W w' from alike_Em 62 Em.same eg62 (ca := xemitsc) (cb := yemitsc) (ha.2.2.2.2.2.2.1.keep Em.Li.keep o) (hb.2.2.2.2.2.2.1.keep Em.Li.keep o) (fun a _ b _ w' h1 h2 => sameEm_any h1 h2)))
  have K3 := Lib.hid (fun W (o : Only [] w W) => (show Calls Tryd.prog 40 #[.slice xtaA xtal.length xtac, .slice ytaA ytal.length ytac, .func (.func 21) #[] #[]] W fun r w' => r = .returned (.bool (exsB xtal ytal)) ∧ Only [] W w' from alike40 21 (fun a b => a.tr.same b.tr) eg21 (ca := xtac) (cb := ytac) (ha.2.2.2.2.2.1.keep o) (hb.2.2.2.2.2.1.keep o) (fun a _ b w' h1 h2 => same_any a b w' h1 h2)))
  have K2 := Lib.hid (fun W (o : Only [] w W) => (show Calls Tryd.prog 59 #[.slice xvarsA xvarsl.length xvarsc, .slice yvarsA yvarsl.length yvarsc, .func (.func 60) #[] #[]] W fun r w' => r = .returned (.bool (alikeG Se.same xvarsl yvarsl)) ∧ Only [] W w' from alike_Se 60 Se.same eg60 (ca := xvarsc) (cb := yvarsc) (ha.2.2.2.2.1.keep Se.Li.keep o) (hb.2.2.2.2.1.keep Se.Li.keep o) (fun a _ b _ w' h1 h2 => sameSe_any h1 h2)))
  have K1 := Lib.hid (fun W (o : Only [] w W) => (show Calls Tryd.prog 57 #[.slice xoutsA xoutsl.length xoutsc, .slice youtsA youtsl.length youtsc, .func (.func 58) #[] #[]] W fun r w' => r = .returned (.bool (alikeG Po.same xoutsl youtsl)) ∧ Only [] W w' from alike_Po 58 Po.same eg58 (ca := xoutsc) (cb := youtsc) (ha.2.2.2.1.keep Po.Li.keep o) (hb.2.2.2.1.keep Po.Li.keep o) (fun a _ b _ w' h1 h2 => samePo_any h1 h2)))
  have K0 := Lib.hid (fun W (o : Only [] w W) => (show Calls Tryd.prog 57 #[.slice xinsA xinsl.length xinsc, .slice yinsA yinsl.length yinsc, .func (.func 58) #[] #[]] W fun r w' => r = .returned (.bool (alikeG Po.same xinsl yinsl)) ∧ Only [] W w' from alike_Po 58 Po.same eg58 (ca := xinsc) (cb := yinsc) (ha.2.2.1.keep Po.Li.keep o) (hb.2.2.1.keep Po.Li.keep o) (fun a _ b _ w' h1 h2 => samePo_any h1 h2)))
  have h0 := Blk.new w 70 #[.string xn, .bool xcp, .slice xinsA xinsl.length xinsc, .slice xoutsA xoutsl.length xoutsc, .slice xvarsA xvarsl.length xvarsc, .slice xtaA xtal.length xtac, .slice xemitsA xemitsl.length xemitsc, .slice xintA xintl.length xintc, .slice xextA xextl.length xextc, .int .i64 xcon, .slice xownA xownl.length xownc, .slice xpartsA xpartsl.length xpartsc, .slice xlinksA xlinksl.length xlinksc, .slice xrulesA xrulesl.length xrulesc]
  have h1 := Blk.new (w.alloc (.cells #[.string xn, .bool xcp, .slice xinsA xinsl.length xinsc, .slice xoutsA xoutsl.length xoutsc, .slice xvarsA xvarsl.length xvarsc, .slice xtaA xtal.length xtac, .slice xemitsA xemitsl.length xemitsc, .slice xintA xintl.length xintc, .slice xextA xextl.length xextc, .int .i64 xcon, .slice xownA xownl.length xownc, .slice xpartsA xpartsl.length xpartsc, .slice xlinksA xlinksl.length xlinksc, .slice xrulesA xrulesl.length xrulesc] 70)) 70 #[.string yn, .bool ycp, .slice yinsA yinsl.length yinsc, .slice youtsA youtsl.length youtsc, .slice yvarsA yvarsl.length yvarsc, .slice ytaA ytal.length ytac, .slice yemitsA yemitsl.length yemitsc, .slice yintA yintl.length yintc, .slice yextA yextl.length yextc, .int .i64 ycon, .slice yownA yownl.length yownc, .slice ypartsA ypartsl.length ypartsc, .slice ylinksA ylinksl.length ylinksc, .slice yrulesA yrulesl.length yrulesc]
  simp only [World.size_alloc] at h1
  have HX0 := Lib.hid (show Blk ((w.alloc (.cells #[.string xn, .bool xcp, .slice xinsA xinsl.length xinsc, .slice xoutsA xoutsl.length xoutsc, .slice xvarsA xvarsl.length xvarsc, .slice xtaA xtal.length xtac, .slice xemitsA xemitsl.length xemitsc, .slice xintA xintl.length xintc, .slice xextA xextl.length xextc, .int .i64 xcon, .slice xownA xownl.length xownc, .slice xpartsA xpartsl.length xpartsc, .slice xlinksA xlinksl.length xlinksc, .slice xrulesA xrulesl.length xrulesc] 70)).alloc (.cells #[.string yn, .bool ycp, .slice yinsA yinsl.length yinsc, .slice youtsA youtsl.length youtsc, .slice yvarsA yvarsl.length yvarsc, .slice ytaA ytal.length ytac, .slice yemitsA yemitsl.length yemitsc, .slice yintA yintl.length yintc, .slice yextA yextl.length yextc, .int .i64 ycon, .slice yownA yownl.length yownc, .slice ypartsA ypartsl.length ypartsc, .slice ylinksA ylinksl.length ylinksc, .slice yrulesA yrulesl.length yrulesc] 70)) w.heap.size 70 #[.string xn, .bool xcp, .slice xinsA xinsl.length xinsc, .slice xoutsA xoutsl.length xoutsc, .slice xvarsA xvarsl.length xvarsc, .slice xtaA xtal.length xtac, .slice xemitsA xemitsl.length xemitsc, .slice xintA xintl.length xintc, .slice xextA xextl.length xextc, .int .i64 xcon, .slice xownA xownl.length xownc, .slice xpartsA xpartsl.length xpartsc, .slice xlinksA xlinksl.length xlinksc, .slice xrulesA xrulesl.length xrulesc] from h0.alloc _)
  have HY0 := Lib.hid h1
  have HO0 := Lib.hid (show Only [] w ((w.alloc (.cells #[.string xn, .bool xcp, .slice xinsA xinsl.length xinsc, .slice xoutsA xoutsl.length xoutsc, .slice xvarsA xvarsl.length xvarsc, .slice xtaA xtal.length xtac, .slice xemitsA xemitsl.length xemitsc, .slice xintA xintl.length xintc, .slice xextA xextl.length xextc, .int .i64 xcon, .slice xownA xownl.length xownc, .slice xpartsA xpartsl.length xpartsc, .slice xlinksA xlinksl.length xlinksc, .slice xrulesA xrulesl.length xrulesc] 70)).alloc (.cells #[.string yn, .bool ycp, .slice yinsA yinsl.length yinsc, .slice youtsA youtsl.length youtsc, .slice yvarsA yvarsl.length yvarsc, .slice ytaA ytal.length ytac, .slice yemitsA yemitsl.length yemitsc, .slice yintA yintl.length yintc, .slice yextA yextl.length yextc, .int .i64 ycon, .slice yownA yownl.length yownc, .slice ypartsA ypartsl.length ypartsc, .slice ylinksA ylinksl.length ylinksc, .slice yrulesA yrulesl.length yrulesc] 70)) from ((Only.refl [] w).alloc _).alloc _)
  clear h0 h1
  have HE := Lib.hid (show Md.same (.mk xn xcp xinsA xinsc xinsl xoutsA xoutsc xoutsl xvarsA xvarsc xvarsl xtaA xtac xtal xemitsA xemitsc xemitsl xintA xintc xintl xextA xextc xextl xcon xownA xownc xownl xpartsA xpartsc xpartsl xlinksA xlinksc xlinksl xrulesA xrulesc xrulesl) (.mk yn ycp yinsA yinsc yinsl youtsA youtsc youtsl yvarsA yvarsc yvarsl ytaA ytac ytal yemitsA yemitsc yemitsl yintA yintc yintl yextA yextc yextl ycon yownA yownc yownl ypartsA ypartsc ypartsl ylinksA ylinksc ylinksl yrulesA yrulesc yrulesl) = (eqS xn yn && decide (xcp = ycp) && decide (xcon = ycon) && alikeG Po.same xinsl yinsl && alikeG Po.same xoutsl youtsl && alikeG Se.same xvarsl yvarsl && exsB xtal ytal && alikeG Em.same xemitsl yemitsl && alikeG Se.same xintl yintl && alikeG Se.same xextl yextl && alikeG Se.same xownl yownl && alikeG Pa.same xpartsl ypartsl && alikeG Lk.same xlinksl ylinksl && alikeG Ru.same xrulesl yrulesl) from rfl)
  obtain ⟨q0, hq0⟩ : ∃ q, alikeG Po.same xinsl yinsl = q := ⟨_, rfl⟩
  rw [hq0] at HE K0
  clear hq0
  obtain ⟨q1, hq1⟩ : ∃ q, alikeG Po.same xoutsl youtsl = q := ⟨_, rfl⟩
  rw [hq1] at HE K1
  clear hq1
  obtain ⟨q2, hq2⟩ : ∃ q, alikeG Se.same xvarsl yvarsl = q := ⟨_, rfl⟩
  rw [hq2] at HE K2
  clear hq2
  obtain ⟨q3, hq3⟩ : ∃ q, exsB xtal ytal = q := ⟨_, rfl⟩
  rw [hq3] at HE K3
  clear hq3
  obtain ⟨q4, hq4⟩ : ∃ q, alikeG Em.same xemitsl yemitsl = q := ⟨_, rfl⟩
  rw [hq4] at HE K4
  clear hq4
  obtain ⟨q5, hq5⟩ : ∃ q, alikeG Se.same xintl yintl = q := ⟨_, rfl⟩
  rw [hq5] at HE K5
  clear hq5
  obtain ⟨q6, hq6⟩ : ∃ q, alikeG Se.same xextl yextl = q := ⟨_, rfl⟩
  rw [hq6] at HE K6
  clear hq6
  obtain ⟨q7, hq7⟩ : ∃ q, alikeG Se.same xownl yownl = q := ⟨_, rfl⟩
  rw [hq7] at HE K7
  clear hq7
  obtain ⟨q8, hq8⟩ : ∃ q, alikeG Pa.same xpartsl ypartsl = q := ⟨_, rfl⟩
  rw [hq8] at HE K8
  clear hq8
  obtain ⟨q9, hq9⟩ : ∃ q, alikeG Lk.same xlinksl ylinksl = q := ⟨_, rfl⟩
  rw [hq9] at HE K9
  clear hq9
  obtain ⟨q10, hq10⟩ : ∃ q, alikeG Ru.same xrulesl yrulesl = q := ⟨_, rfl⟩
  rw [hq10] at HE K10
  clear hq10
  clear ha hb
  show Calls Tryd.prog 45 #[.agg #[.string xn, .bool xcp, .slice xinsA xinsl.length xinsc, .slice xoutsA xoutsl.length xoutsc, .slice xvarsA xvarsl.length xvarsc, .slice xtaA xtal.length xtac, .slice xemitsA xemitsl.length xemitsc, .slice xintA xintl.length xintc, .slice xextA xextl.length xextc, .int .i64 xcon, .slice xownA xownl.length xownc, .slice xpartsA xpartsl.length xpartsc, .slice xlinksA xlinksl.length xlinksc, .slice xrulesA xrulesl.length xrulesc], .agg #[.string yn, .bool ycp, .slice yinsA yinsl.length yinsc, .slice youtsA youtsl.length youtsc, .slice yvarsA yvarsl.length yvarsc, .slice ytaA ytal.length ytac, .slice yemitsA yemitsl.length yemitsc, .slice yintA yintl.length yintc, .slice yextA yextl.length yextc, .int .i64 ycon, .slice yownA yownl.length yownc, .slice ypartsA ypartsl.length ypartsc, .slice ylinksA ylinksl.length ylinksc, .slice yrulesA yrulesl.length yrulesc]] w fun r w' => r = .returned (.bool (Md.same (.mk xn xcp xinsA xinsc xinsl xoutsA xoutsc xoutsl xvarsA xvarsc xvarsl xtaA xtac xtal xemitsA xemitsc xemitsl xintA xintc xintl xextA xextc xextl xcon xownA xownc xownl xpartsA xpartsc xpartsl xlinksA xlinksc xlinksl xrulesA xrulesc xrulesl) (.mk yn ycp yinsA yinsc yinsl youtsA youtsc youtsl yvarsA yvarsc yvarsl ytaA ytac ytal yemitsA yemitsc yemitsl yintA yintc yintl yextA yextc yextl ycon yownA yownc yownl ypartsA ypartsc ypartsl ylinksA ylinksc ylinksl yrulesA yrulesc yrulesl))) ∧ Only [] w w'
  rw [HE.out]
  clear HE
  obtain ⟨bx0, bx1, bx2, bx3, bx4, bx5, bx6, bx7, bx8, bx9, bx10, bx11, bx12, bx13, bxl⟩ := HX0.out.facts14
  obtain ⟨by0, by1, by2, by3, by4, by5, by6, by7, by8, by9, by10, by11, by12, by13, byl⟩ := HY0.out.facts14
  clear bx3 by3 bx4 by4 bx5 by5 bx6 by6 bx7 by7 bx8 by8 bx10 by10 bx11 by11 bx12 by12 bx13 by13
  go_enter Tryd.func45, Tryd.ntmps45
  by_cases e0 : xn.toList = yn.toList
  · have e0b : (xn.toList == yn.toList) = true := by simp [e0]
    by_cases e1 : xcp = ycp
    · subst e1
      by_cases e2 : xcon = ycon
      · subst e2
        go_wp2_with (fail)
        refine (K0.out _ HO0.out).mono ?_
        rintro r w1 ⟨rfl, o1⟩
        have HO1 := Lib.hid (HO0.out.trans o1 (by simp))
        have HX1 := Lib.hid (o1.blk HX0.out (by simp))
        have HY1 := Lib.hid (o1.blk HY0.out (by simp))
        clear o1
        clear bx0 by0 bx1 by1 bx9 by9 bx2 by2 bxl byl
        cases q0
        · go_wp2_with (fail)
          go_ret
          exact ⟨by simp, HO1.out⟩
        · obtain ⟨bx0, bx1, bx2, bx3, bx4, bx5, bx6, bx7, bx8, bx9, bx10, bx11, bx12, bx13, bxl⟩ := HX1.out.facts14
          obtain ⟨by0, by1, by2, by3, by4, by5, by6, by7, by8, by9, by10, by11, by12, by13, byl⟩ := HY1.out.facts14
          clear bx0 by0 bx1 by1 bx2 by2 bx4 by4 bx5 by5 bx6 by6 bx7 by7 bx8 by8 bx9 by9 bx10 by10 bx11 by11 bx12 by12 bx13 by13
          go_wp2_with (fail)
          refine (K1.out _ HO1.out).mono ?_
          rintro r w2 ⟨rfl, o2⟩
          have HO2 := Lib.hid (HO1.out.trans o2 (by simp))
          have HX2 := Lib.hid (o2.blk HX1.out (by simp))
          have HY2 := Lib.hid (o2.blk HY1.out (by simp))
          clear o2
          clear bx3 by3 bxl byl
          cases q1
          · go_wp2_with (fail)
            go_ret
            exact ⟨by simp, HO2.out⟩
          · obtain ⟨bx0, bx1, bx2, bx3, bx4, bx5, bx6, bx7, bx8, bx9, bx10, bx11, bx12, bx13, bxl⟩ := HX2.out.facts14
            obtain ⟨by0, by1, by2, by3, by4, by5, by6, by7, by8, by9, by10, by11, by12, by13, byl⟩ := HY2.out.facts14
            clear bx0 by0 bx1 by1 bx2 by2 bx3 by3 bx5 by5 bx6 by6 bx7 by7 bx8 by8 bx9 by9 bx10 by10 bx11 by11 bx12 by12 bx13 by13
            go_wp2_with (fail)
            refine (K2.out _ HO2.out).mono ?_
            rintro r w3 ⟨rfl, o3⟩
            have HO3 := Lib.hid (HO2.out.trans o3 (by simp))
            have HX3 := Lib.hid (o3.blk HX2.out (by simp))
            have HY3 := Lib.hid (o3.blk HY2.out (by simp))
            clear o3
            clear bx4 by4 bxl byl
            cases q2
            · go_wp2_with (fail)
              go_ret
              exact ⟨by simp, HO3.out⟩
            · obtain ⟨bx0, bx1, bx2, bx3, bx4, bx5, bx6, bx7, bx8, bx9, bx10, bx11, bx12, bx13, bxl⟩ := HX3.out.facts14
              obtain ⟨by0, by1, by2, by3, by4, by5, by6, by7, by8, by9, by10, by11, by12, by13, byl⟩ := HY3.out.facts14
              clear bx0 by0 bx1 by1 bx2 by2 bx3 by3 bx4 by4 bx6 by6 bx7 by7 bx8 by8 bx9 by9 bx10 by10 bx11 by11 bx12 by12 bx13 by13
              go_wp2_with (fail)
              refine (K3.out _ HO3.out).mono ?_
              rintro r w4 ⟨rfl, o4⟩
              have HO4 := Lib.hid (HO3.out.trans o4 (by simp))
              have HX4 := Lib.hid (o4.blk HX3.out (by simp))
              have HY4 := Lib.hid (o4.blk HY3.out (by simp))
              clear o4
              clear bx5 by5 bxl byl
              cases q3
              · go_wp2_with (fail)
                go_ret
                exact ⟨by simp, HO4.out⟩
              · obtain ⟨bx0, bx1, bx2, bx3, bx4, bx5, bx6, bx7, bx8, bx9, bx10, bx11, bx12, bx13, bxl⟩ := HX4.out.facts14
                obtain ⟨by0, by1, by2, by3, by4, by5, by6, by7, by8, by9, by10, by11, by12, by13, byl⟩ := HY4.out.facts14
                clear bx0 by0 bx1 by1 bx2 by2 bx3 by3 bx4 by4 bx5 by5 bx7 by7 bx8 by8 bx9 by9 bx10 by10 bx11 by11 bx12 by12 bx13 by13
                go_wp2_with (fail)
                refine (K4.out _ HO4.out).mono ?_
                rintro r w5 ⟨rfl, o5⟩
                have HO5 := Lib.hid (HO4.out.trans o5 (by simp))
                have HX5 := Lib.hid (o5.blk HX4.out (by simp))
                have HY5 := Lib.hid (o5.blk HY4.out (by simp))
                clear o5
                clear bx6 by6 bxl byl
                cases q4
                · go_wp2_with (fail)
                  go_ret
                  exact ⟨by simp, HO5.out⟩
                · obtain ⟨bx0, bx1, bx2, bx3, bx4, bx5, bx6, bx7, bx8, bx9, bx10, bx11, bx12, bx13, bxl⟩ := HX5.out.facts14
                  obtain ⟨by0, by1, by2, by3, by4, by5, by6, by7, by8, by9, by10, by11, by12, by13, byl⟩ := HY5.out.facts14
                  clear bx0 by0 bx1 by1 bx2 by2 bx3 by3 bx4 by4 bx5 by5 bx6 by6 bx8 by8 bx9 by9 bx10 by10 bx11 by11 bx12 by12 bx13 by13
                  go_wp2_with (fail)
                  refine (K5.out _ HO5.out).mono ?_
                  rintro r w6 ⟨rfl, o6⟩
                  have HO6 := Lib.hid (HO5.out.trans o6 (by simp))
                  have HX6 := Lib.hid (o6.blk HX5.out (by simp))
                  have HY6 := Lib.hid (o6.blk HY5.out (by simp))
                  clear o6
                  clear bx7 by7 bxl byl
                  cases q5
                  · go_wp2_with (fail)
                    go_ret
                    exact ⟨by simp, HO6.out⟩
                  · obtain ⟨bx0, bx1, bx2, bx3, bx4, bx5, bx6, bx7, bx8, bx9, bx10, bx11, bx12, bx13, bxl⟩ := HX6.out.facts14
                    obtain ⟨by0, by1, by2, by3, by4, by5, by6, by7, by8, by9, by10, by11, by12, by13, byl⟩ := HY6.out.facts14
                    clear bx0 by0 bx1 by1 bx2 by2 bx3 by3 bx4 by4 bx5 by5 bx6 by6 bx7 by7 bx9 by9 bx10 by10 bx11 by11 bx12 by12 bx13 by13
                    go_wp2_with (fail)
                    refine (K6.out _ HO6.out).mono ?_
                    rintro r w7 ⟨rfl, o7⟩
                    have HO7 := Lib.hid (HO6.out.trans o7 (by simp))
                    have HX7 := Lib.hid (o7.blk HX6.out (by simp))
                    have HY7 := Lib.hid (o7.blk HY6.out (by simp))
                    clear o7
                    clear bx8 by8 bxl byl
                    cases q6
                    · go_wp2_with (fail)
                      go_ret
                      exact ⟨by simp, HO7.out⟩
                    · obtain ⟨bx0, bx1, bx2, bx3, bx4, bx5, bx6, bx7, bx8, bx9, bx10, bx11, bx12, bx13, bxl⟩ := HX7.out.facts14
                      obtain ⟨by0, by1, by2, by3, by4, by5, by6, by7, by8, by9, by10, by11, by12, by13, byl⟩ := HY7.out.facts14
                      clear bx0 by0 bx1 by1 bx2 by2 bx3 by3 bx4 by4 bx5 by5 bx6 by6 bx7 by7 bx8 by8 bx9 by9 bx11 by11 bx12 by12 bx13 by13
                      go_wp2_with (fail)
                      refine (K7.out _ HO7.out).mono ?_
                      rintro r w8 ⟨rfl, o8⟩
                      have HO8 := Lib.hid (HO7.out.trans o8 (by simp))
                      have HX8 := Lib.hid (o8.blk HX7.out (by simp))
                      have HY8 := Lib.hid (o8.blk HY7.out (by simp))
                      clear o8
                      clear bx10 by10 bxl byl
                      cases q7
                      · go_wp2_with (fail)
                        go_ret
                        exact ⟨by simp, HO8.out⟩
                      · obtain ⟨bx0, bx1, bx2, bx3, bx4, bx5, bx6, bx7, bx8, bx9, bx10, bx11, bx12, bx13, bxl⟩ := HX8.out.facts14
                        obtain ⟨by0, by1, by2, by3, by4, by5, by6, by7, by8, by9, by10, by11, by12, by13, byl⟩ := HY8.out.facts14
                        clear bx0 by0 bx1 by1 bx2 by2 bx3 by3 bx4 by4 bx5 by5 bx6 by6 bx7 by7 bx8 by8 bx9 by9 bx10 by10 bx12 by12 bx13 by13
                        go_wp2_with (fail)
                        refine (K8.out _ HO8.out).mono ?_
                        rintro r w9 ⟨rfl, o9⟩
                        have HO9 := Lib.hid (HO8.out.trans o9 (by simp))
                        have HX9 := Lib.hid (o9.blk HX8.out (by simp))
                        have HY9 := Lib.hid (o9.blk HY8.out (by simp))
                        clear o9
                        clear bx11 by11 bxl byl
                        cases q8
                        · go_wp2_with (fail)
                          go_ret
                          exact ⟨by simp, HO9.out⟩
                        · obtain ⟨bx0, bx1, bx2, bx3, bx4, bx5, bx6, bx7, bx8, bx9, bx10, bx11, bx12, bx13, bxl⟩ := HX9.out.facts14
                          obtain ⟨by0, by1, by2, by3, by4, by5, by6, by7, by8, by9, by10, by11, by12, by13, byl⟩ := HY9.out.facts14
                          clear bx0 by0 bx1 by1 bx2 by2 bx3 by3 bx4 by4 bx5 by5 bx6 by6 bx7 by7 bx8 by8 bx9 by9 bx10 by10 bx11 by11 bx13 by13
                          go_wp2_with (fail)
                          refine (K9.out _ HO9.out).mono ?_
                          rintro r w10 ⟨rfl, o10⟩
                          have HO10 := Lib.hid (HO9.out.trans o10 (by simp))
                          have HX10 := Lib.hid (o10.blk HX9.out (by simp))
                          have HY10 := Lib.hid (o10.blk HY9.out (by simp))
                          clear o10
                          clear bx12 by12 bxl byl
                          cases q9
                          · go_wp2_with (fail)
                            go_ret
                            exact ⟨by simp, HO10.out⟩
                          · obtain ⟨bx0, bx1, bx2, bx3, bx4, bx5, bx6, bx7, bx8, bx9, bx10, bx11, bx12, bx13, bxl⟩ := HX10.out.facts14
                            obtain ⟨by0, by1, by2, by3, by4, by5, by6, by7, by8, by9, by10, by11, by12, by13, byl⟩ := HY10.out.facts14
                            clear bx0 by0 bx1 by1 bx2 by2 bx3 by3 bx4 by4 bx5 by5 bx6 by6 bx7 by7 bx8 by8 bx9 by9 bx10 by10 bx11 by11 bx12 by12
                            go_wp2_with (fail)
                            refine (K10.out _ HO10.out).mono ?_
                            rintro r w11 ⟨rfl, o11⟩
                            have HO11 := Lib.hid (HO10.out.trans o11 (by simp))
                            have HX11 := Lib.hid (o11.blk HX10.out (by simp))
                            have HY11 := Lib.hid (o11.blk HY10.out (by simp))
                            clear o11
                            clear bx13 by13 bxl byl
                            cases q10
                            · go_wp2_with (fail)
                              go_ret
                              exact ⟨by simp, HO11.out⟩
                            · go_wp2_with (fail)
                              go_ret
                              exact ⟨by simp [eqS, e0], HO11.out⟩
      · have e2b : (xcon == ycon) = false := by simp [e2]
        go_wp2_with (fail)
        go_ret
        exact ⟨by simp, HO0.out⟩
    · have e1b : (xcp == ycp) = false := by simp [e1]
      go_wp2_with (fail)
      go_ret
      exact ⟨by simp [eqS, e0, e1], HO0.out⟩
  · have e0b : (xn.toList == yn.toList) = false := by simp [e0]
    go_wp2_with (fail)
    go_ret
    exact ⟨by simp [eqS, e0], HO0.out⟩
end Go.Proofs.YtfnacnlaphpflaaDoor
