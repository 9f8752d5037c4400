/- Right, the program's, of acts and rules. -/
import Derived.Test.YtfnacnlaphpflaaDoorPRt
namespace Go.Proofs.YtfnacnlaphpflaaDoor
open Go.RowKit Go.Kx
open Go.Val (Tt)
set_option maxRecDepth 100000
theorem eq_none (a b c d : ByteArray) (W : World) : (binOp .eql 112 (.agg #[.string a, .string b, .string c, .string d]) (.agg #[.string ⟨#[]⟩, .string ⟨#[]⟩, .string ⟨#[]⟩, .string ⟨#[]⟩])).run Tryd.prog W = .ok (.bool (nilB a && nilB b && nilB c && nilB d)) W := by
  have he : (⟨#[]⟩ : ByteArray).toList = [] := by rw [← List.length_eq_zero_iff]; simp
  unfold nilB
  by_cases h0 : a.toList = []
  · by_cases h1 : b.toList = []
    · by_cases h2 : c.toList = []
      · by_cases h3 : d.toList = []
        · simp [go_sem, h0, h1, h2, h3, he]
        · simp [go_sem, h0, h1, h2, h3, he]
      · simp [go_sem, h0, h1, h2, he]
    · simp [go_sem, h0, h1, he]
  · simp [go_sem, h0, he]
set_option maxHeartbeats 4000000 in
theorem rightAc0 {n m a b c d : ByteArray} {w : World} (hn : okS n) (hm : okS m) (_ha : okS a) (_hb : okS b) (_hc : okS c) (_hd : okS d) (hW : WordsIs w) : Calls Tryd.prog 103 #[.agg #[.int .i64 0, .string n, .string m, .string a, .string b, .string c, .string d]] w fun r w' => r = .returned (.bool (Ac.ok (.mk 0 n m a b c d))) ∧ Only [] w w' := by
  have HE := Lib.hid (show Ac.ok (.mk 0 n m a b c d) = (nmB n && nmB m && (nilB a && nilB b && nilB c && nilB d)) from by simp [Ac.ok, Ac.none, Ac.k_, Ac.n_, Ac.m_, Ac.a_, Ac.b_, Ac.c_, Ac.d_])
  have K0 := Lib.hid (fun W (o : Only [] w W) => (show Calls Tryd.prog 17 #[.string n] W fun r w' => r = .returned (.bool (nmB n)) ∧ Only [] W w' from name_any hn (hW.keep o)))
  obtain ⟨q0, hq0⟩ : ∃ q, nmB n = q := ⟨_, rfl⟩
  rw [hq0] at HE K0
  clear hq0
  have K1 := Lib.hid (fun W (o : Only [] w W) => (show Calls Tryd.prog 17 #[.string m] W fun r w' => r = .returned (.bool (nmB m)) ∧ Only [] W w' from name_any hm (hW.keep o)))
  obtain ⟨q1, hq1⟩ : ∃ q, nmB m = q := ⟨_, rfl⟩
  rw [hq1] at HE K1
  clear hq1
  have hEQ := eq_none a b c d
  obtain ⟨qn, hqn⟩ : ∃ q, (nilB a && nilB b && nilB c && nilB d) = q := ⟨_, rfl⟩
  rw [hqn] at hEQ
  rw [hqn] at HE
  clear hqn
  rw [HE.out]
  clear HE hn hm _ha _hb _hc _hd hW
  have HX0 := Lib.hid (show Blk (w.alloc (.cells #[.int .i64 0, .string n, .string m, .string a, .string b, .string c, .string d] 120)) w.heap.size 120 #[.int .i64 0, .string n, .string m, .string a, .string b, .string c, .string d] from Blk.new w 120 _)
  have HO0 := Lib.hid (show Only [] w (w.alloc (.cells #[.int .i64 0, .string n, .string m, .string a, .string b, .string c, .string d] 120)) from (Only.refl [] w).alloc _)
  obtain ⟨bx0, bx1, bx2, bx3, bx4, bx5, bx6, bxl⟩ := HX0.out.facts7
  go_enter Tryd.func103, Tryd.ntmps103
  go_wp2_with (fail)
  refine (K0.out _ HO0.out).mono ?_
  rintro r w1 ⟨rfl, o1⟩
  have HO1 := Lib.hid (HO0.out.trans o1 (by simp))
  have HX1 := Lib.hid (o1.blk HX0.out (by simp))
  clear o1
  clear bx0 bx1 bx2 bx3 bx4 bx5 bx6 bxl
  obtain ⟨bx0, bx1, bx2, bx3, bx4, bx5, bx6, bxl⟩ := HX1.out.facts7
  cases q0
  · go_wp2_with (fail)
    go_ret
    exact ⟨by first | rfl | simp, HO1.out⟩
  · go_wp2_with (fail)
    refine (K1.out _ HO1.out).mono ?_
    rintro r w2 ⟨rfl, o2⟩
    have HO2 := Lib.hid (HO1.out.trans o2 (by simp))
    have HX2 := Lib.hid (o2.blk HX1.out (by simp))
    clear o2
    clear bx0 bx1 bx2 bx3 bx4 bx5 bx6 bxl
    obtain ⟨bx0, bx1, bx2, bx3, bx4, bx5, bx6, bxl⟩ := HX2.out.facts7
    cases q1
    · go_wp2_with (fail)
      go_ret
      exact ⟨by first | rfl | simp, HO2.out⟩
    · go_wp2_with (fail)
      go_ret
      exact ⟨by first | rfl | simp, HO2.out⟩
set_option maxHeartbeats 4000000 in
theorem rightAc1 {n m a b c d : ByteArray} {w : World} (hn : okS n) (_hm : okS m) (_ha : okS a) (_hb : okS b) (_hc : okS c) (_hd : okS d) (hW : WordsIs w) : Calls Tryd.prog 103 #[.agg #[.int .i64 1, .string n, .string m, .string a, .string b, .string c, .string d]] w fun r w' => r = .returned (.bool (Ac.ok (.mk 1 n m a b c d))) ∧ Only [] w w' := by
  have HE := Lib.hid (show Ac.ok (.mk 1 n m a b c d) = (nmB n && nilB m && (nilB a && nilB b && nilB c && nilB d)) from by simp [Ac.ok, Ac.none, Ac.k_, Ac.n_, Ac.m_, Ac.a_, Ac.b_, Ac.c_, Ac.d_])
  have K0 := Lib.hid (fun W (o : Only [] w W) => (show Calls Tryd.prog 17 #[.string n] W fun r w' => r = .returned (.bool (nmB n)) ∧ Only [] W w' from name_any hn (hW.keep o)))
  obtain ⟨q0, hq0⟩ : ∃ q, nmB n = q := ⟨_, rfl⟩
  rw [hq0] at HE K0
  clear hq0
  have hEQ := eq_none a b c d
  obtain ⟨qn, hqn⟩ : ∃ q, (nilB a && nilB b && nilB c && nilB d) = q := ⟨_, rfl⟩
  rw [hqn] at hEQ
  rw [hqn] at HE
  clear hqn
  rw [HE.out]
  clear HE hn _hm _ha _hb _hc _hd hW
  have HX0 := Lib.hid (show Blk (w.alloc (.cells #[.int .i64 1, .string n, .string m, .string a, .string b, .string c, .string d] 120)) w.heap.size 120 #[.int .i64 1, .string n, .string m, .string a, .string b, .string c, .string d] from Blk.new w 120 _)
  have HO0 := Lib.hid (show Only [] w (w.alloc (.cells #[.int .i64 1, .string n, .string m, .string a, .string b, .string c, .string d] 120)) from (Only.refl [] w).alloc _)
  obtain ⟨bx0, bx1, bx2, bx3, bx4, bx5, bx6, bxl⟩ := HX0.out.facts7
  go_enter Tryd.func103, Tryd.ntmps103
  go_wp2_with (fail)
  refine (K0.out _ HO0.out).mono ?_
  rintro r w1 ⟨rfl, o1⟩
  have HO1 := Lib.hid (HO0.out.trans o1 (by simp))
  have HX1 := Lib.hid (o1.blk HX0.out (by simp))
  clear o1
  clear bx0 bx1 bx2 bx3 bx4 bx5 bx6 bxl
  obtain ⟨bx0, bx1, bx2, bx3, bx4, bx5, bx6, bxl⟩ := HX1.out.facts7
  cases q0
  · go_wp2_with (fail)
    go_ret
    exact ⟨by first | rfl | simp, HO1.out⟩
  · by_cases e0 : nilB m = true
    · have e0a : m.toList.isEmpty = true := e0
      have e0b : (m.toList == []) = true := by simpa [nilB] using e0
      have E0 := Lib.hid e0
      clear e0
      go_wp2_with (fail)
      go_ret
      exact ⟨by first | rfl | simp [E0.out], HO1.out⟩
    · have e0a : m.toList.isEmpty = false := by simpa [nilB] using e0
      have e0b : (m.toList == []) = false := by simpa [nilB] using e0
      have E0 := Lib.hid (show nilB m = false from e0a)
      clear e0
      go_wp2_with (fail)
      go_ret
      exact ⟨by first | rfl | simp [E0.out], HO1.out⟩
set_option maxHeartbeats 4000000 in
theorem rightAc2 {n m a b c d : ByteArray} {w : World} (_hn : okS n) (_hm : okS m) (ha : okS a) (hb : okS b) (hc : okS c) (hd : okS d) (hW : WordsIs w) : Calls Tryd.prog 103 #[.agg #[.int .i64 2, .string n, .string m, .string a, .string b, .string c, .string d]] w fun r w' => r = .returned (.bool (Ac.ok (.mk 2 n m a b c d))) ∧ Only [] w w' := by
  have HE := Lib.hid (show Ac.ok (.mk 2 n m a b c d) = (nilB n && nilB m && (endB a b && endB c d)) from by simp [Ac.ok, Ac.k_, Ac.n_, Ac.m_, Ac.a_, Ac.b_, Ac.c_, Ac.d_])
  have K0 := Lib.hid (fun W (o : Only [] w W) => (show Calls Tryd.prog 90 #[.agg #[.string a, .string b, .string c, .string d]] W fun r w' => r = .returned (.bool (endB a b && endB c d)) ∧ Only [] W w' from rightLk0 (xa := a) (xb := b) (xc := c) (xd := d) ⟨ha, hb, hc, hd⟩ (hW.keep o)))
  obtain ⟨q0, hq0⟩ : ∃ q, (endB a b && endB c d) = q := ⟨_, rfl⟩
  rw [hq0] at HE K0
  clear hq0
  have hEQ := eq_none a b c d
  obtain ⟨qn, hqn⟩ : ∃ q, (nilB a && nilB b && nilB c && nilB d) = q := ⟨_, rfl⟩
  rw [hqn] at hEQ
  clear hqn
  rw [HE.out]
  clear HE _hn _hm ha hb hc hd hW
  have HX0 := Lib.hid (show Blk (w.alloc (.cells #[.int .i64 2, .string n, .string m, .string a, .string b, .string c, .string d] 120)) w.heap.size 120 #[.int .i64 2, .string n, .string m, .string a, .string b, .string c, .string d] from Blk.new w 120 _)
  have HO0 := Lib.hid (show Only [] w (w.alloc (.cells #[.int .i64 2, .string n, .string m, .string a, .string b, .string c, .string d] 120)) from (Only.refl [] w).alloc _)
  obtain ⟨bx0, bx1, bx2, bx3, bx4, bx5, bx6, bxl⟩ := HX0.out.facts7
  go_enter Tryd.func103, Tryd.ntmps103
  by_cases e0 : nilB n = true
  · have e0a : n.toList.isEmpty = true := e0
    have e0b : (n.toList == []) = true := by simpa [nilB] using e0
    have E0 := Lib.hid e0
    clear e0
    by_cases e1 : nilB m = true
    · have e1a : m.toList.isEmpty = true := e1
      have e1b : (m.toList == []) = true := by simpa [nilB] using e1
      have E1 := Lib.hid e1
      clear e1
      go_wp2_with (fail)
      refine (K0.out _ HO0.out).mono ?_
      rintro r w1 ⟨rfl, o1⟩
      have HO1 := Lib.hid (HO0.out.trans o1 (by simp))
      have HX1 := Lib.hid (o1.blk HX0.out (by simp))
      clear o1
      clear bx0 bx1 bx2 bx3 bx4 bx5 bx6 bxl
      obtain ⟨bx0, bx1, bx2, bx3, bx4, bx5, bx6, bxl⟩ := HX1.out.facts7
      go_wp2_with (fail)
      go_ret
      exact ⟨by first | rfl | simp [E0.out, E1.out], HO1.out⟩
    · have e1a : m.toList.isEmpty = false := by simpa [nilB] using e1
      have e1b : (m.toList == []) = false := by simpa [nilB] using e1
      have E1 := Lib.hid (show nilB m = false from e1a)
      clear e1
      go_wp2_with (fail)
      go_ret
      exact ⟨by first | rfl | simp [E0.out, E1.out], HO0.out⟩
  · have e0a : n.toList.isEmpty = false := by simpa [nilB] using e0
    have e0b : (n.toList == []) = false := by simpa [nilB] using e0
    have E0 := Lib.hid (show nilB n = false from e0a)
    clear e0
    go_wp2_with (fail)
    go_ret
    exact ⟨by first | rfl | simp [E0.out], HO0.out⟩
set_option maxHeartbeats 4000000 in
theorem rightAc3 {n m a b c d : ByteArray} {w : World} (_hn : okS n) (_hm : okS m) (ha : okS a) (hb : okS b) (hc : okS c) (hd : okS d) (hW : WordsIs w) : Calls Tryd.prog 103 #[.agg #[.int .i64 3, .string n, .string m, .string a, .string b, .string c, .string d]] w fun r w' => r = .returned (.bool (Ac.ok (.mk 3 n m a b c d))) ∧ Only [] w w' := by
  have HE := Lib.hid (show Ac.ok (.mk 3 n m a b c d) = (nilB n && nilB m && (endB a b && endB c d)) from by simp [Ac.ok, Ac.k_, Ac.n_, Ac.m_, Ac.a_, Ac.b_, Ac.c_, Ac.d_])
  have K0 := Lib.hid (fun W (o : Only [] w W) => (show Calls Tryd.prog 90 #[.agg #[.string a, .string b, .string c, .string d]] W fun r w' => r = .returned (.bool (endB a b && endB c d)) ∧ Only [] W w' from rightLk0 (xa := a) (xb := b) (xc := c) (xd := d) ⟨ha, hb, hc, hd⟩ (hW.keep o)))
  obtain ⟨q0, hq0⟩ : ∃ q, (endB a b && endB c d) = q := ⟨_, rfl⟩
  rw [hq0] at HE K0
  clear hq0
  have hEQ := eq_none a b c d
  obtain ⟨qn, hqn⟩ : ∃ q, (nilB a && nilB b && nilB c && nilB d) = q := ⟨_, rfl⟩
  rw [hqn] at hEQ
  clear hqn
  rw [HE.out]
  clear HE _hn _hm ha hb hc hd hW
  have HX0 := Lib.hid (show Blk (w.alloc (.cells #[.int .i64 3, .string n, .string m, .string a, .string b, .string c, .string d] 120)) w.heap.size 120 #[.int .i64 3, .string n, .string m, .string a, .string b, .string c, .string d] from Blk.new w 120 _)
  have HO0 := Lib.hid (show Only [] w (w.alloc (.cells #[.int .i64 3, .string n, .string m, .string a, .string b, .string c, .string d] 120)) from (Only.refl [] w).alloc _)
  obtain ⟨bx0, bx1, bx2, bx3, bx4, bx5, bx6, bxl⟩ := HX0.out.facts7
  go_enter Tryd.func103, Tryd.ntmps103
  by_cases e0 : nilB n = true
  · have e0a : n.toList.isEmpty = true := e0
    have e0b : (n.toList == []) = true := by simpa [nilB] using e0
    have E0 := Lib.hid e0
    clear e0
    by_cases e1 : nilB m = true
    · have e1a : m.toList.isEmpty = true := e1
      have e1b : (m.toList == []) = true := by simpa [nilB] using e1
      have E1 := Lib.hid e1
      clear e1
      go_wp2_with (fail)
      refine (K0.out _ HO0.out).mono ?_
      rintro r w1 ⟨rfl, o1⟩
      have HO1 := Lib.hid (HO0.out.trans o1 (by simp))
      have HX1 := Lib.hid (o1.blk HX0.out (by simp))
      clear o1
      clear bx0 bx1 bx2 bx3 bx4 bx5 bx6 bxl
      obtain ⟨bx0, bx1, bx2, bx3, bx4, bx5, bx6, bxl⟩ := HX1.out.facts7
      go_wp2_with (fail)
      go_ret
      exact ⟨by first | rfl | simp [E0.out, E1.out], HO1.out⟩
    · have e1a : m.toList.isEmpty = false := by simpa [nilB] using e1
      have e1b : (m.toList == []) = false := by simpa [nilB] using e1
      have E1 := Lib.hid (show nilB m = false from e1a)
      clear e1
      go_wp2_with (fail)
      go_ret
      exact ⟨by first | rfl | simp [E0.out, E1.out], HO0.out⟩
  · have e0a : n.toList.isEmpty = false := by simpa [nilB] using e0
    have e0b : (n.toList == []) = false := by simpa [nilB] using e0
    have E0 := Lib.hid (show nilB n = false from e0a)
    clear e0
    go_wp2_with (fail)
    go_ret
    exact ⟨by first | rfl | simp [E0.out], HO0.out⟩
set_option maxHeartbeats 4000000 in
theorem rightAck {k : Int} {n m a b c d : ByteArray} {w : World} (_hn : okS n) (_hm : okS m) (_ha : okS a) (_hb : okS b) (_hc : okS c) (_hd : okS d) (_hW : WordsIs w) (h0 : k ≠ 0) (h1 : k ≠ 1) (h2 : k ≠ 2) (h3 : k ≠ 3) : Calls Tryd.prog 103 #[.agg #[.int .i64 k, .string n, .string m, .string a, .string b, .string c, .string d]] w fun r w' => r = .returned (.bool (Ac.ok (.mk k n m a b c d))) ∧ Only [] w w' := by
  have HE := Lib.hid (show Ac.ok (.mk k n m a b c d) = false from by simp [Ac.ok, Ac.k_, h0, h1, h2, h3])
  have hEQ := eq_none a b c d
  obtain ⟨qn, hqn⟩ : ∃ q, (nilB a && nilB b && nilB c && nilB d) = q := ⟨_, rfl⟩
  rw [hqn] at hEQ
  clear hqn
  have j0 : (k == 0) = false := by simp [h0]
  have j1 : (k == 1) = false := by simp [h1]
  have j2 : (k == 2) = false := by simp [h2]
  have j3 : (k == 3) = false := by simp [h3]
  clear h0 h1 h2 h3
  rw [HE.out]
  clear HE _hn _hm _ha _hb _hc _hd _hW
  have HX0 := Lib.hid (show Blk (w.alloc (.cells #[.int .i64 k, .string n, .string m, .string a, .string b, .string c, .string d] 120)) w.heap.size 120 #[.int .i64 k, .string n, .string m, .string a, .string b, .string c, .string d] from Blk.new w 120 _)
  have HO0 := Lib.hid (show Only [] w (w.alloc (.cells #[.int .i64 k, .string n, .string m, .string a, .string b, .string c, .string d] 120)) from (Only.refl [] w).alloc _)
  obtain ⟨bx0, bx1, bx2, bx3, bx4, bx5, bx6, bxl⟩ := HX0.out.facts7
  go_enter Tryd.func103, Tryd.ntmps103
  go_wp2_with (fail)
  go_ret
  exact ⟨by first | rfl | simp, HO0.out⟩
theorem rightAc {e : Ac} {w : World} (ha : Ac.Li w e) (hW : WordsIs w) : Calls Tryd.prog 103 #[e.val] w fun r w' => r = .returned (.bool e.ok) ∧ Only [] w w' := by
  obtain ⟨k, n, m, a, b, c, d⟩ := e
  by_cases h0 : k = 0
  · subst h0; exact rightAc0 ha.2.1 ha.2.2.1 ha.2.2.2.1 ha.2.2.2.2.1 ha.2.2.2.2.2.1 ha.2.2.2.2.2.2 hW
  by_cases h1 : k = 1
  · subst h1; exact rightAc1 ha.2.1 ha.2.2.1 ha.2.2.2.1 ha.2.2.2.2.1 ha.2.2.2.2.2.1 ha.2.2.2.2.2.2 hW
  by_cases h2 : k = 2
  · subst h2; exact rightAc2 ha.2.1 ha.2.2.1 ha.2.2.2.1 ha.2.2.2.2.1 ha.2.2.2.2.2.1 ha.2.2.2.2.2.2 hW
  by_cases h3 : k = 3
  · subst h3; exact rightAc3 ha.2.1 ha.2.2.1 ha.2.2.2.1 ha.2.2.2.2.1 ha.2.2.2.2.2.1 ha.2.2.2.2.2.2 hW
  exact rightAck ha.2.1 ha.2.2.1 ha.2.2.2.1 ha.2.2.2.2.1 ha.2.2.2.2.2.1 ha.2.2.2.2.2.2 hW h0 h1 h2 h3
theorem eg103 : ∀ args w, (callFunc 103 args).run Tryd.prog w = .ok (.enter 103 args) w := enters Tryd.func103 (by kernel_rfl) rfl
set_option maxHeartbeats 4000000 in
theorem rightRu0 {xeo : Int} {xen : Int} {xes : ByteArray} {xeu : ByteArray} {xeA : Option Addr} {xec : Nat} {xel : List Ex} {xsA : Option Addr} {xsc : Nat} {xsl : List Ac} {w : World} (ha : Ru.Li w (.mk xeo xen xes xeu xeA xec xel xsA xsc xsl)) (hW : WordsIs w) : Calls Tryd.prog 92 #[.agg #[.int .i64 xeo, .int .i64 xen, .string xes, .string xeu, .slice xeA xel.length xec, .slice xsA xsl.length xsc]] w fun r w' => r = .returned (.bool (Ru.ok (.mk xeo xen xes xeu xeA xec xel xsA xsc xsl))) ∧ Only [] w w' := by
  have K0 := Lib.hid (fun W (o : Only [] w W) => (show Calls Tryd.prog 20 #[.agg #[.int .i64 xeo, .int .i64 xen, .string xes, .string xeu, .slice xeA xel.length xec]] W fun r w' => r = .returned (.bool ((Ex.mk xeo xen xes xeu xeA xec xel).tr.ok)) ∧ Only [] W w' from pright_any (e := (Ex.mk xeo xen xes xeu xeA xec xel)) (ha.1.keep o) (hW.keep o)))
  have K1 := Lib.hid (fun W (o : Only [] w W) => (show Calls Tryd.prog 102 #[.slice xsA xsl.length xsc, .func (.func 103) #[] #[]] W fun r w' => r = .returned (.bool (xsl.all Ac.ok)) ∧ Only [] W w' from all_Ac 103 Ac.ok eg103 (cap := xsc) (ha.2.keep Ac.Li.keep o) (hW.keep o) (fun _ _ _ h1 h2 => rightAc h1 h2)))
  have HE := Lib.hid (show Ru.ok (.mk xeo xen xes xeu xeA xec xel xsA xsc xsl) = (decide (xsl.length ≤ 5) && (Ex.mk xeo xen xes xeu xeA xec xel).tr.ok && xsl.all Ac.ok) from rfl)
  obtain ⟨q0, hq0⟩ : ∃ q, (Ex.mk xeo xen xes xeu xeA xec xel).tr.ok = q := ⟨_, rfl⟩
  rw [hq0] at HE K0
  clear hq0
  obtain ⟨q1, hq1⟩ : ∃ q, xsl.all Ac.ok = q := ⟨_, rfl⟩
  rw [hq1] at HE K1
  clear hq1
  show Calls Tryd.prog 92 #[.agg #[.int .i64 xeo, .int .i64 xen, .string xes, .string xeu, .slice xeA xel.length xec, .slice xsA xsl.length xsc]] w fun r w' => r = .returned (.bool (Ru.ok (.mk xeo xen xes xeu xeA xec xel xsA xsc xsl))) ∧ Only [] w w'
  rw [HE.out]
  clear HE ha hW
  have HX0 := Lib.hid (Blk.new w 77 #[.int .i64 xeo, .int .i64 xen, .string xes, .string xeu, .slice xeA xel.length xec, .slice xsA xsl.length xsc])
  have HO0 := Lib.hid (show Only [] w (w.alloc (.cells #[.int .i64 xeo, .int .i64 xen, .string xes, .string xeu, .slice xeA xel.length xec, .slice xsA xsl.length xsc] 77)) from (Only.refl [] w).alloc _)
  obtain ⟨bx0, bx1, bx2, bx3, bx4, bx5, bxl⟩ := HX0.out.facts6
  go_enter Tryd.func92, Tryd.ntmps92
  by_cases e0 : xsl.length ≤ 5
  · have e0a : decide (xsl.length ≤ 5) = true := by first | exact decide_eq_true (by omega) | simp_all [nilB]
    have e0b : decide ((xsl.length : Int) ≤ 5) = true := by first | exact decide_eq_true (by omega) | simp_all [nilB]
    have e0v : decide (xsl.length ≤ 5) = true := by first | exact decide_eq_true (by omega) | simpa [nilB] using e0
    have E0 := Lib.hid e0v
    clear e0v
    go_wp2_with (fail)
    refine (K0.out _ HO0.out).mono ?_
    rintro r w1 ⟨rfl, o1⟩
    have HO1 := Lib.hid (HO0.out.trans o1 (by simp))
    have HX1 := Lib.hid (o1.blk HX0.out (by simp))
    clear o1
    clear bx0 bx1 bx2 bx3 bx4 bx5 bxl
    obtain ⟨bx0, bx1, bx2, bx3, bx4, bx5, bxl⟩ := HX1.out.facts6
    cases q0
    · go_wp2_with (fail)
      go_ret
      exact ⟨by simp [E0.out], HO1.out⟩
    · go_wp2_with (fail)
      refine (K1.out _ HO1.out).mono ?_
      rintro r w2 ⟨rfl, o2⟩
      have HO2 := Lib.hid (HO1.out.trans o2 (by simp))
      have HX2 := Lib.hid (o2.blk HX1.out (by simp))
      clear o2
      clear bx0 bx1 bx2 bx3 bx4 bx5 bxl
      obtain ⟨bx0, bx1, bx2, bx3, bx4, bx5, bxl⟩ := HX2.out.facts6
      go_wp2_with (fail)
      go_ret
      exact ⟨by simp [E0.out], HO2.out⟩
  · have e0a : decide (xsl.length ≤ 5) = false := by first | exact decide_eq_false (by omega) | simp_all [nilB]
    have e0b : decide ((xsl.length : Int) ≤ 5) = false := by first | exact decide_eq_false (by omega) | simp_all [nilB]
    have e0v : decide (xsl.length ≤ 5) = false := by first | exact decide_eq_false (by omega) | simpa [nilB] using e0
    have E0 := Lib.hid e0v
    clear e0v
    go_wp2_with (fail)
    go_ret
    exact ⟨by simp [E0.out], HO0.out⟩
theorem eg92 : ∀ args w, (callFunc 92 args).run Tryd.prog w = .ok (.enter 92 args) w := enters Tryd.func92 (by kernel_rfl) rfl
theorem rightRu {e : Ru} {w : World} (ha : Ru.Li w e) (hW : WordsIs w) : Calls Tryd.prog 92 #[e.val] w fun r w' => r = .returned (.bool e.ok) ∧ Only [] w w' := by
  obtain ⟨xeo, xen, xes, xeu, xeA, xec, xel, xsA, xsc, xsl⟩ := e
  exact rightRu0 ha hW
end Go.Proofs.YtfnacnlaphpflaaDoor
