/- Right, the program's, of what a model is made of. -/
import Derived.Test.YtfnacnlaphpflaaDoorPAll
import Derived.Test.YtfnacnlaphpflaaDoorTRight
import Derived.Test.YtfnacnlaphpflaaDoorRight
import Derived.Test.YtfnacnlaphpflaaDoorRR0
namespace Go.Proofs.YtfnacnlaphpflaaDoor
open Go.RowKit Go.Kx
open Go.Val (Tt)
set_option maxRecDepth 100000
def Po.ok (p : Po) : Bool := nmB p.n_ && p.t_.tr.ok 3
def Se.ok (s : Se) : Bool := nmB s.n_ && s.e_.tr.ok
def exsOk (l : List Ex) : Bool := l.all fun e => e.tr.ok
def Em.ok (x : Em) : Bool := nmB x.p_ && decide (x.i_.length ≤ 1) && x.e_.tr.ok && exsOk x.i_
def Pa.ok (p : Pa) : Bool := nmB p.n_ && nmB p.m_
def endB (a b : ByteArray) : Bool := nmB b && (nilB a || nmB a)
def Lk.ok (l : Lk) : Bool := endB l.a_ l.b_ && endB l.c_ l.d_
def Ac.none (a : Ac) : Bool := nilB a.a_ && nilB a.b_ && nilB a.c_ && nilB a.d_
def Ac.ok (a : Ac) : Bool :=
  if a.k_ = 0 then nmB a.n_ && nmB a.m_ && a.none
  else if a.k_ = 1 then nmB a.n_ && nilB a.m_ && a.none
  else if a.k_ = 2 ∨ a.k_ = 3 then nilB a.n_ && nilB a.m_ && (endB a.a_ a.b_ && endB a.c_ a.d_)
  else false
def Ru.ok (r : Ru) : Bool := decide (r.s_.length ≤ 5) && r.e_.tr.ok && r.s_.all Ac.ok
def setsOk (l : List Se) : Bool := decide (l.length ≤ 10) && l.all Se.ok
def portsOk (l : List Po) : Bool := decide (l.length ≤ 8) && l.all Po.ok
/-- an atomic model; a coupled one -/
def Md.okA (m : Md) : Bool := decide (m.parts_.length = 0) && decide (m.links_.length = 0) && decide (m.rules_.length = 0) && decide (0 ≤ m.con_) && decide (m.con_ ≤ 2) && (decide (m.own_.length = 0) || decide (m.con_ = 2)) && setsOk m.vars_ && setsOk m.int_ && setsOk m.ext_ && setsOk m.own_ && decide (m.ta_.length = 1) && exsOk m.ta_ && decide (m.emits_.length ≤ 8) && m.emits_.all Em.ok
def Md.okC (m : Md) : Bool := decide (m.vars_.length = 0) && decide (m.ta_.length = 0) && decide (m.emits_.length = 0) && decide (m.con_ = 0) && decide (m.int_.length = 0) && decide (m.ext_.length = 0) && decide (m.own_.length = 0) && decide (m.parts_.length ≤ 32) && m.parts_.all Pa.ok && decide (m.links_.length ≤ 200) && m.links_.all Lk.ok && decide (m.rules_.length ≤ 4) && m.rules_.all Ru.ok
def Md.ok (m : Md) : Bool := nmB m.n_ && portsOk m.ins_ && portsOk m.outs_ && (if m.cp_ = true then m.okC else m.okA)
def okP (ms : List Md) (r : ByteArray) : Bool := decide (1 ≤ ms.length) && decide (ms.length ≤ 24) && nmB r && ms.all Md.ok
set_option maxHeartbeats 4000000 in
theorem rightPo0 {xn : ByteArray} {xtk : Int} {xtA : Option Addr} {xtc : Nat} {xtl : List Tx} {w : World} (ha : Po.Li w (.mk xn xtk xtA xtc xtl)) (hW : WordsIs w) : Calls Tryd.prog 73 #[.agg #[.string xn, .int .i64 xtk, .slice xtA xtl.length xtc]] w fun r w' => r = .returned (.bool (Po.ok (.mk xn xtk xtA xtc xtl))) ∧ Only [] w w' := by
  have K0 := Lib.hid (fun W (o : Only [] w W) => (show Calls Tryd.prog 17 #[.string xn] W fun r w' => r = .returned (.bool (nmB xn)) ∧ Only [] W w' from name_any ha.1 (hW.keep o)))
  have K1 := Lib.hid (fun W (o : Only [] w W) => (show Calls Tryd.prog 86 #[.agg #[.int .i64 xtk, .slice xtA xtl.length xtc]] W fun r w' => r = .returned (.bool ((Tx.mk xtk xtA xtc xtl).tr.ok 3)) ∧ Only [] W w' from topT (e := (Tx.mk xtk xtA xtc xtl)) (ha.2.keep o)))
  have HE := Lib.hid (show Po.ok (.mk xn xtk xtA xtc xtl) = (nmB xn && (Tx.mk xtk xtA xtc xtl).tr.ok 3) from rfl)
  obtain ⟨q0, hq0⟩ : ∃ q, nmB xn = q := ⟨_, rfl⟩
  rw [hq0] at HE K0
  clear hq0
  obtain ⟨q1, hq1⟩ : ∃ q, (Tx.mk xtk xtA xtc xtl).tr.ok 3 = q := ⟨_, rfl⟩
  rw [hq1] at HE K1
  clear hq1
  show Calls Tryd.prog 73 #[.agg #[.string xn, .int .i64 xtk, .slice xtA xtl.length xtc]] w fun r w' => r = .returned (.bool (Po.ok (.mk xn xtk xtA xtc xtl))) ∧ Only [] w w'
  rw [HE.out]
  clear HE ha hW
  have HX0 := Lib.hid (Blk.new w 95 #[.string xn, .int .i64 xtk, .slice xtA xtl.length xtc])
  have HO0 := Lib.hid (show Only [] w (w.alloc (.cells #[.string xn, .int .i64 xtk, .slice xtA xtl.length xtc] 95)) from (Only.refl [] w).alloc _)
  obtain ⟨bx0, bx1, bx2, bxl⟩ := HX0.out.facts3
  go_enter Tryd.func73, Tryd.ntmps73
  go_wp2_with (fail)
  refine (K0.out _ HO0.out).mono ?_
  rintro r w1 ⟨rfl, o1⟩
  have HO1 := Lib.hid (HO0.out.trans o1 (by simp))
  have HX1 := Lib.hid (o1.blk HX0.out (by simp))
  clear o1
  clear bx0 bx1 bx2 bxl
  obtain ⟨bx0, bx1, bx2, bxl⟩ := HX1.out.facts3
  cases q0
  · go_wp2_with (fail)
    go_ret
    exact ⟨by simp, HO1.out⟩
  · go_wp2_with (fail)
    refine (K1.out _ HO1.out).mono ?_
    rintro r w2 ⟨rfl, o2⟩
    have HO2 := Lib.hid (HO1.out.trans o2 (by simp))
    have HX2 := Lib.hid (o2.blk HX1.out (by simp))
    clear o2
    clear bx0 bx1 bx2 bxl
    obtain ⟨bx0, bx1, bx2, bxl⟩ := HX2.out.facts3
    go_wp2_with (fail)
    go_ret
    exact ⟨by simp, HO2.out⟩
theorem eg73 : ∀ args w, (callFunc 73 args).run Tryd.prog w = .ok (.enter 73 args) w := enters Tryd.func73 (by kernel_rfl) rfl
theorem rightPo {e : Po} {w : World} (ha : Po.Li w e) (hW : WordsIs w) : Calls Tryd.prog 73 #[e.val] w fun r w' => r = .returned (.bool e.ok) ∧ Only [] w w' := by
  obtain ⟨xn, xtk, xtA, xtc, xtl⟩ := e
  exact rightPo0 ha hW
set_option maxHeartbeats 4000000 in
theorem rightSe0 {xn : ByteArray} {xeo : Int} {xen : Int} {xes : ByteArray} {xeu : ByteArray} {xeA : Option Addr} {xec : Nat} {xel : List Ex} {w : World} (ha : Se.Li w (.mk xn xeo xen xes xeu xeA xec xel)) (hW : WordsIs w) : Calls Tryd.prog 94 #[.agg #[.string xn, .int .i64 xeo, .int .i64 xen, .string xes, .string xeu, .slice xeA xel.length xec]] w fun r w' => r = .returned (.bool (Se.ok (.mk xn xeo xen xes xeu xeA xec xel))) ∧ Only [] w w' := by
  have K0 := Lib.hid (fun W (o : Only [] w W) => (show Calls Tryd.prog 17 #[.string xn] W fun r w' => r = .returned (.bool (nmB xn)) ∧ Only [] W w' from name_any ha.1 (hW.keep o)))
  have K1 := Lib.hid (fun W (o : Only [] w W) => (show Calls Tryd.prog 20 #[.agg #[.int .i64 xeo, .int .i64 xen, .string xes, .string xeu, .slice xeA xel.length xec]] W fun r w' => r = .returned (.bool ((Ex.mk xeo xen xes xeu xeA xec xel).tr.ok)) ∧ Only [] W w' from pright_any (e := (Ex.mk xeo xen xes xeu xeA xec xel)) (ha.2.keep o) (hW.keep o)))
  have HE := Lib.hid (show Se.ok (.mk xn xeo xen xes xeu xeA xec xel) = (nmB xn && (Ex.mk xeo xen xes xeu xeA xec xel).tr.ok) from rfl)
  obtain ⟨q0, hq0⟩ : ∃ q, nmB xn = q := ⟨_, rfl⟩
  rw [hq0] at HE K0
  clear hq0
  obtain ⟨q1, hq1⟩ : ∃ q, (Ex.mk xeo xen xes xeu xeA xec xel).tr.ok = q := ⟨_, rfl⟩
  rw [hq1] at HE K1
  clear hq1
  show Calls Tryd.prog 94 #[.agg #[.string xn, .int .i64 xeo, .int .i64 xen, .string xes, .string xeu, .slice xeA xel.length xec]] w fun r w' => r = .returned (.bool (Se.ok (.mk xn xeo xen xes xeu xeA xec xel))) ∧ Only [] w w'
  rw [HE.out]
  clear HE ha hW
  have HX0 := Lib.hid (Blk.new w 97 #[.string xn, .int .i64 xeo, .int .i64 xen, .string xes, .string xeu, .slice xeA xel.length xec])
  have HO0 := Lib.hid (show Only [] w (w.alloc (.cells #[.string xn, .int .i64 xeo, .int .i64 xen, .string xes, .string xeu, .slice xeA xel.length xec] 97)) from (Only.refl [] w).alloc _)
  obtain ⟨bx0, bx1, bx2, bx3, bx4, bx5, bxl⟩ := HX0.out.facts6
  go_enter Tryd.func94, Tryd.ntmps94
  go_wp2_with (fail)
  refine (K0.out _ HO0.out).mono ?_
  rintro r w1 ⟨rfl, o1⟩
  have HO1 := Lib.hid (HO0.out.trans o1 (by simp))
  have HX1 := Lib.hid (o1.blk HX0.out (by simp))
  clear o1
  clear bx0 bx1 bx2 bx3 bx4 bx5 bxl
  obtain ⟨bx0, bx1, bx2, bx3, bx4, bx5, bxl⟩ := HX1.out.facts6
  cases q0
  · go_wp2_with (fail)
    go_ret
    exact ⟨by simp, HO1.out⟩
  · go_wp2_with (fail)
    refine (K1.out _ HO1.out).mono ?_
    rintro r w2 ⟨rfl, o2⟩
    have HO2 := Lib.hid (HO1.out.trans o2 (by simp))
    have HX2 := Lib.hid (o2.blk HX1.out (by simp))
    clear o2
    clear bx0 bx1 bx2 bx3 bx4 bx5 bxl
    obtain ⟨bx0, bx1, bx2, bx3, bx4, bx5, bxl⟩ := HX2.out.facts6
    go_wp2_with (fail)
    go_ret
    exact ⟨by simp, HO2.out⟩
theorem eg94 : ∀ args w, (callFunc 94 args).run Tryd.prog w = .ok (.enter 94 args) w := enters Tryd.func94 (by kernel_rfl) rfl
theorem rightSe {e : Se} {w : World} (ha : Se.Li w e) (hW : WordsIs w) : Calls Tryd.prog 94 #[e.val] w fun r w' => r = .returned (.bool e.ok) ∧ Only [] w w' := by
  obtain ⟨xn, xeo, xen, xes, xeu, xeA, xec, xel⟩ := e
  exact rightSe0 ha hW
theorem eg20 : ∀ args w, (callFunc 20 args).run Tryd.prog w = .ok (.enter 20 args) w := enters Tryd.func20 (by kernel_rfl) rfl
theorem exsOk_any {A : Option Addr} {cap : Nat} {l : List Ex} {w : World} (hR : RowL w A l) (hW : WordsIs w) :
    Calls Tryd.prog 55 #[.slice A l.length cap, .func (.func 20) #[] #[]] w fun r w' => r = .returned (.bool (exsOk l)) ∧ Only [] w w' :=
  allE 20 (fun e => e.tr.ok) eg20 hR hW (fun _ _ _ hl hw => pright_any hl hw)
set_option maxHeartbeats 4000000 in
theorem rightEm0 {xp : ByteArray} {xeo : Int} {xen : Int} {xes : ByteArray} {xeu : ByteArray} {xeA : Option Addr} {xec : Nat} {xel : List Ex} {xiA : Option Addr} {xic : Nat} {xil : List Ex} {w : World} (ha : Em.Li w (.mk xp xeo xen xes xeu xeA xec xel xiA xic xil)) (hW : WordsIs w) : Calls Tryd.prog 96 #[.agg #[.string xp, .int .i64 xeo, .int .i64 xen, .string xes, .string xeu, .slice xeA xel.length xec, .slice xiA xil.length xic]] w fun r w' => r = .returned (.bool (Em.ok (.mk xp xeo xen xes xeu xeA xec xel xiA xic xil))) ∧ Only [] w w' := by
  have K0 := Lib.hid (fun W (o : Only [] w W) => (show Calls Tryd.prog 17 #[.string xp] W fun r w' => r = .returned (.bool (nmB xp)) ∧ Only [] W w' from name_any ha.1 (hW.keep o)))
  have K1 := Lib.hid (fun W (o : Only [] w W) => (show Calls Tryd.prog 20 #[.agg #[.int .i64 xeo, .int .i64 xen, .string xes, .string xeu, .slice xeA xel.length xec]] W fun r w' => r = .returned (.bool ((Ex.mk xeo xen xes xeu xeA xec xel).tr.ok)) ∧ Only [] W w' from pright_any (e := (Ex.mk xeo xen xes xeu xeA xec xel)) (ha.2.1.keep o) (hW.keep o)))
  have K2 := Lib.hid (fun W (o : Only [] w W) => (show Calls Tryd.prog 55 #[.slice xiA xil.length xic, .func (.func 20) #[] #[]] W fun r w' => r = .returned (.bool (exsOk xil)) ∧ Only [] W w' from exsOk_any (ha.2.2.keep o) (hW.keep o)))
  have HE := Lib.hid (show Em.ok (.mk xp xeo xen xes xeu xeA xec xel xiA xic xil) = (nmB xp && decide (xil.length ≤ 1) && (Ex.mk xeo xen xes xeu xeA xec xel).tr.ok && exsOk xil) from rfl)
  obtain ⟨q0, hq0⟩ : ∃ q, nmB xp = q := ⟨_, rfl⟩
  rw [hq0] at HE K0
  clear hq0
  obtain ⟨q1, hq1⟩ : ∃ q, (Ex.mk xeo xen xes xeu xeA xec xel).tr.ok = q := ⟨_, rfl⟩
  rw [hq1] at HE K1
  clear hq1
  obtain ⟨q2, hq2⟩ : ∃ q, exsOk xil = q := ⟨_, rfl⟩
  rw [hq2] at HE K2
  clear hq2
  show Calls Tryd.prog 96 #[.agg #[.string xp, .int .i64 xeo, .int .i64 xen, .string xes, .string xeu, .slice xeA xel.length xec, .slice xiA xil.length xic]] w fun r w' => r = .returned (.bool (Em.ok (.mk xp xeo xen xes xeu xeA xec xel xiA xic xil))) ∧ Only [] w w'
  rw [HE.out]
  clear HE ha hW
  have HX0 := Lib.hid (Blk.new w 74 #[.string xp, .int .i64 xeo, .int .i64 xen, .string xes, .string xeu, .slice xeA xel.length xec, .slice xiA xil.length xic])
  have HO0 := Lib.hid (show Only [] w (w.alloc (.cells #[.string xp, .int .i64 xeo, .int .i64 xen, .string xes, .string xeu, .slice xeA xel.length xec, .slice xiA xil.length xic] 74)) from (Only.refl [] w).alloc _)
  obtain ⟨bx0, bx1, bx2, bx3, bx4, bx5, bx6, bxl⟩ := HX0.out.facts7
  go_enter Tryd.func96, Tryd.ntmps96
  go_wp2_with (fail)
  refine (K0.out _ HO0.out).mono ?_
  rintro r w1 ⟨rfl, o1⟩
  have HO1 := Lib.hid (HO0.out.trans o1 (by simp))
  have HX1 := Lib.hid (o1.blk HX0.out (by simp))
  clear o1
  clear bx0 bx1 bx2 bx3 bx4 bx5 bx6 bxl
  obtain ⟨bx0, bx1, bx2, bx3, bx4, bx5, bx6, bxl⟩ := HX1.out.facts7
  cases q0
  · go_wp2_with (fail)
    go_ret
    exact ⟨by simp, HO1.out⟩
  · by_cases e1 : xil.length ≤ 1
    · have e1a : decide (xil.length ≤ 1) = true := by first | exact decide_eq_true (by omega) | simp_all [nilB]
      have e1b : decide ((xil.length : Int) ≤ 1) = true := by first | exact decide_eq_true (by omega) | simp_all [nilB]
      have e1v : decide (xil.length ≤ 1) = true := by first | exact decide_eq_true (by omega) | simpa [nilB] using e1
      have E1 := Lib.hid e1v
      clear e1v
      go_wp2_with (fail)
      refine (K1.out _ HO1.out).mono ?_
      rintro r w2 ⟨rfl, o2⟩
      have HO2 := Lib.hid (HO1.out.trans o2 (by simp))
      have HX2 := Lib.hid (o2.blk HX1.out (by simp))
      clear o2
      clear bx0 bx1 bx2 bx3 bx4 bx5 bx6 bxl
      obtain ⟨bx0, bx1, bx2, bx3, bx4, bx5, bx6, bxl⟩ := HX2.out.facts7
      cases q1
      · go_wp2_with (fail)
        go_ret
        exact ⟨by simp [E1.out], HO2.out⟩
      · go_wp2_with (fail)
        refine (K2.out _ HO2.out).mono ?_
        rintro r w3 ⟨rfl, o3⟩
        have HO3 := Lib.hid (HO2.out.trans o3 (by simp))
        have HX3 := Lib.hid (o3.blk HX2.out (by simp))
        clear o3
        clear bx0 bx1 bx2 bx3 bx4 bx5 bx6 bxl
        obtain ⟨bx0, bx1, bx2, bx3, bx4, bx5, bx6, bxl⟩ := HX3.out.facts7
        go_wp2_with (fail)
        go_ret
        exact ⟨by simp [E1.out], HO3.out⟩
    · have e1a : decide (xil.length ≤ 1) = false := by first | exact decide_eq_false (by omega) | simp_all [nilB]
      have e1b : decide ((xil.length : Int) ≤ 1) = false := by first | exact decide_eq_false (by omega) | simp_all [nilB]
      have e1v : decide (xil.length ≤ 1) = false := by first | exact decide_eq_false (by omega) | simpa [nilB] using e1
      have E1 := Lib.hid e1v
      clear e1v
      go_wp2_with (fail)
      go_ret
      exact ⟨by simp [E1.out], HO1.out⟩
theorem eg96 : ∀ args w, (callFunc 96 args).run Tryd.prog w = .ok (.enter 96 args) w := enters Tryd.func96 (by kernel_rfl) rfl
theorem rightEm {e : Em} {w : World} (ha : Em.Li w e) (hW : WordsIs w) : Calls Tryd.prog 96 #[e.val] w fun r w' => r = .returned (.bool e.ok) ∧ Only [] w w' := by
  obtain ⟨xp, xeo, xen, xes, xeu, xeA, xec, xel, xiA, xic, xil⟩ := e
  exact rightEm0 ha hW
set_option maxHeartbeats 4000000 in
theorem rightPa0 {xn : ByteArray} {xm : ByteArray} {w : World} (ha : Pa.Li w (.mk xn xm)) (hW : WordsIs w) : Calls Tryd.prog 88 #[.agg #[.string xn, .string xm]] w fun r w' => r = .returned (.bool (Pa.ok (.mk xn xm))) ∧ Only [] w w' := by
  have K0 := Lib.hid (fun W (o : Only [] w W) => (show Calls Tryd.prog 17 #[.string xn] W fun r w' => r = .returned (.bool (nmB xn)) ∧ Only [] W w' from name_any ha.1 (hW.keep o)))
  have K1 := Lib.hid (fun W (o : Only [] w W) => (show Calls Tryd.prog 17 #[.string xm] W fun r w' => r = .returned (.bool (nmB xm)) ∧ Only [] W w' from name_any ha.2 (hW.keep o)))
  have HE := Lib.hid (show Pa.ok (.mk xn xm) = (nmB xn && nmB xm) from rfl)
  obtain ⟨q0, hq0⟩ : ∃ q, nmB xn = q := ⟨_, rfl⟩
  rw [hq0] at HE K0
  clear hq0
  obtain ⟨q1, hq1⟩ : ∃ q, nmB xm = q := ⟨_, rfl⟩
  rw [hq1] at HE K1
  clear hq1
  show Calls Tryd.prog 88 #[.agg #[.string xn, .string xm]] w fun r w' => r = .returned (.bool (Pa.ok (.mk xn xm))) ∧ Only [] w w'
  rw [HE.out]
  clear HE ha hW
  have HX0 := Lib.hid (Blk.new w 106 #[.string xn, .string xm])
  have HO0 := Lib.hid (show Only [] w (w.alloc (.cells #[.string xn, .string xm] 106)) from (Only.refl [] w).alloc _)
  obtain ⟨bx0, bx1, bxl⟩ := HX0.out.facts2
  go_enter Tryd.func88, Tryd.ntmps88
  go_wp2_with (fail)
  refine (K0.out _ HO0.out).mono ?_
  rintro r w1 ⟨rfl, o1⟩
  have HO1 := Lib.hid (HO0.out.trans o1 (by simp))
  have HX1 := Lib.hid (o1.blk HX0.out (by simp))
  clear o1
  clear bx0 bx1 bxl
  obtain ⟨bx0, bx1, bxl⟩ := HX1.out.facts2
  cases q0
  · go_wp2_with (fail)
    go_ret
    exact ⟨by simp, HO1.out⟩
  · go_wp2_with (fail)
    refine (K1.out _ HO1.out).mono ?_
    rintro r w2 ⟨rfl, o2⟩
    have HO2 := Lib.hid (HO1.out.trans o2 (by simp))
    have HX2 := Lib.hid (o2.blk HX1.out (by simp))
    clear o2
    clear bx0 bx1 bxl
    obtain ⟨bx0, bx1, bxl⟩ := HX2.out.facts2
    go_wp2_with (fail)
    go_ret
    exact ⟨by simp, HO2.out⟩
theorem eg88 : ∀ args w, (callFunc 88 args).run Tryd.prog w = .ok (.enter 88 args) w := enters Tryd.func88 (by kernel_rfl) rfl
theorem rightPa {e : Pa} {w : World} (ha : Pa.Li w e) (hW : WordsIs w) : Calls Tryd.prog 88 #[e.val] w fun r w' => r = .returned (.bool e.ok) ∧ Only [] w w' := by
  obtain ⟨xn, xm⟩ := e
  exact rightPa0 ha hW
set_option maxHeartbeats 4000000 in
theorem end_any {a b : ByteArray} {w : World} (ha : okS a) (hb : okS b) (hW : WordsIs w) : Calls Tryd.prog 101 #[.agg #[.string a, .string b]] w fun r w' => r = .returned (.bool (endB a b)) ∧ Only [] w w' := by
  have K0 := Lib.hid (fun W (o : Only [] w W) => (show Calls Tryd.prog 17 #[.string b] W fun r w' => r = .returned (.bool (nmB b)) ∧ Only [] W w' from name_any hb (hW.keep o)))
  have K1 := Lib.hid (fun W (o : Only [] w W) => (show Calls Tryd.prog 17 #[.string a] W fun r w' => r = .returned (.bool (nmB a)) ∧ Only [] W w' from name_any ha (hW.keep o)))
  have HE := Lib.hid (show endB a b = (nmB b && (nilB a || nmB a)) from rfl)
  obtain ⟨q0, hq0⟩ : ∃ q, nmB b = q := ⟨_, rfl⟩
  rw [hq0] at HE K0
  clear hq0
  obtain ⟨q1, hq1⟩ : ∃ q, nmB a = q := ⟨_, rfl⟩
  rw [hq1] at HE K1
  clear hq1
  rw [HE.out]
  clear HE
  have HX0 := Lib.hid (Blk.new w 110 #[.string a, .string b])
  have HO0 := Lib.hid (show Only [] w (w.alloc (.cells #[.string a, .string b] 110)) from (Only.refl [] w).alloc _)
  obtain ⟨bx0, bx1, bxl⟩ := HX0.out.facts2
  go_enter Tryd.func101, Tryd.ntmps101
  go_wp2_with (fail)
  refine (K0.out _ HO0.out).mono ?_
  rintro r w1 ⟨rfl, o1⟩
  have HO1 := Lib.hid (HO0.out.trans o1 (by simp))
  have HX1 := Lib.hid (o1.blk HX0.out (by simp))
  clear o1 bx0 bx1 bxl
  obtain ⟨bx0, bx1, bxl⟩ := HX1.out.facts2
  cases q0
  · go_wp2_with (fail)
    go_ret
    exact ⟨by simp, HO1.out⟩
  · by_cases e : nilB a = true
    · have ea : a.toList.isEmpty = true := e
      have eb : (a.toList == []) = true := by simpa [nilB] using e
      have E := Lib.hid e
      clear e
      go_wp2_with (fail)
      go_ret
      exact ⟨by simp [E.out], HO1.out⟩
    · have ea : a.toList.isEmpty = false := by simpa [nilB] using e
      have eb : (a.toList == []) = false := by simpa [nilB] using e
      have E := Lib.hid (show nilB a = false from ea)
      clear e
      go_wp2_with (fail)
      refine (K1.out _ HO1.out).mono ?_
      rintro r w2 ⟨rfl, o2⟩
      have HO2 := Lib.hid (HO1.out.trans o2 (by simp))
      clear o2 bx0 bx1 bxl
      go_wp2_with (fail)
      go_ret
      exact ⟨by simp [E.out], HO2.out⟩
set_option maxHeartbeats 4000000 in
theorem rightLk0 {xa : ByteArray} {xb : ByteArray} {xc : ByteArray} {xd : ByteArray} {w : World} (ha : Lk.Li w (.mk xa xb xc xd)) (hW : WordsIs w) : Calls Tryd.prog 90 #[.agg #[.string xa, .string xb, .string xc, .string xd]] w fun r w' => r = .returned (.bool (Lk.ok (.mk xa xb xc xd))) ∧ Only [] w w' := by
  have K0 := Lib.hid (fun W (o : Only [] w W) => (show Calls Tryd.prog 101 #[.agg #[.string xa, .string xb]] W fun r w' => r = .returned (.bool (endB xa xb)) ∧ Only [] W w' from end_any ha.1 ha.2.1 (hW.keep o)))
  have K1 := Lib.hid (fun W (o : Only [] w W) => (show Calls Tryd.prog 101 #[.agg #[.string xc, .string xd]] W fun r w' => r = .returned (.bool (endB xc xd)) ∧ Only [] W w' from end_any ha.2.2.1 ha.2.2.2 (hW.keep o)))
  have HE := Lib.hid (show Lk.ok (.mk xa xb xc xd) = (endB xa xb && endB xc xd) from rfl)
  obtain ⟨q0, hq0⟩ : ∃ q, endB xa xb = q := ⟨_, rfl⟩
  rw [hq0] at HE K0
  clear hq0
  obtain ⟨q1, hq1⟩ : ∃ q, endB xc xd = q := ⟨_, rfl⟩
  rw [hq1] at HE K1
  clear hq1
  show Calls Tryd.prog 90 #[.agg #[.string xa, .string xb, .string xc, .string xd]] w fun r w' => r = .returned (.bool (Lk.ok (.mk xa xb xc xd))) ∧ Only [] w w'
  rw [HE.out]
  clear HE ha hW
  have HX0 := Lib.hid (Blk.new w 112 #[.string xa, .string xb, .string xc, .string xd])
  have HO0 := Lib.hid (show Only [] w (w.alloc (.cells #[.string xa, .string xb, .string xc, .string xd] 112)) from (Only.refl [] w).alloc _)
  obtain ⟨bx0, bx1, bx2, bx3, bxl⟩ := HX0.out.facts4
  go_enter Tryd.func90, Tryd.ntmps90
  go_wp2_with (fail)
  refine (K0.out _ HO0.out).mono ?_
  rintro r w1 ⟨rfl, o1⟩
  have HO1 := Lib.hid (HO0.out.trans o1 (by simp))
  have HX1 := Lib.hid (o1.blk HX0.out (by simp))
  clear o1
  clear bx0 bx1 bx2 bx3 bxl
  obtain ⟨bx0, bx1, bx2, bx3, bxl⟩ := HX1.out.facts4
  cases q0
  · go_wp2_with (fail)
    go_ret
    exact ⟨by simp, HO1.out⟩
  · go_wp2_with (fail)
    refine (K1.out _ HO1.out).mono ?_
    rintro r w2 ⟨rfl, o2⟩
    have HO2 := Lib.hid (HO1.out.trans o2 (by simp))
    have HX2 := Lib.hid (o2.blk HX1.out (by simp))
    clear o2
    clear bx0 bx1 bx2 bx3 bxl
    obtain ⟨bx0, bx1, bx2, bx3, bxl⟩ := HX2.out.facts4
    go_wp2_with (fail)
    go_ret
    exact ⟨by simp, HO2.out⟩
theorem eg90 : ∀ args w, (callFunc 90 args).run Tryd.prog w = .ok (.enter 90 args) w := enters Tryd.func90 (by kernel_rfl) rfl
theorem rightLk {e : Lk} {w : World} (ha : Lk.Li w e) (hW : WordsIs w) : Calls Tryd.prog 90 #[e.val] w fun r w' => r = .returned (.bool e.ok) ∧ Only [] w w' := by
  obtain ⟨xa, xb, xc, xd⟩ := e
  exact rightLk0 ha hW
end Go.Proofs.YtfnacnlaphpflaaDoor
