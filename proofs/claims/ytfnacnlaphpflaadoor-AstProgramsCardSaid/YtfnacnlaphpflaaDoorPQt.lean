/- Right, the document's, of what a model is made of. -/
import Derived.Test.YtfnacnlaphpflaaDoorPRu
import Derived.Test.YtfnacnlaphpflaaDoorTRefRight
import Derived.Test.YtfnacnlaphpflaaDoorRRj
namespace Go.Proofs.YtfnacnlaphpflaaDoor
open Go.RowKit Go.Kx
open Go.Val (Tt)
set_option maxRecDepth 100000
set_option maxHeartbeats 4000000 in
theorem rend_any {a b : ByteArray} {w : World} (ha : okS a) (hb : okS b) : Calls Tryd.prog 98 #[.agg #[.string a, .string b]] w fun r w' => r = .returned (.bool (endB a b)) ∧ Only [] w w' := by
  have K0 := Lib.hid (fun W (o : Only [] w W) => (show Calls Tryd.prog 18 #[.string b] W fun r w' => r = .returned (.bool (nmB b)) ∧ Only [] W w' from refname_any hb ))
  have K1 := Lib.hid (fun W (o : Only [] w W) => (show Calls Tryd.prog 18 #[.string a] W fun r w' => r = .returned (.bool (nmB a)) ∧ Only [] W w' from refname_any ha ))
  have HE := Lib.hid (show endB a b = (nmB b && (nilB a || nmB a)) from rfl)
  obtain ⟨q0, hq0⟩ : ∃ q, nmB b = q := ⟨_, rfl⟩
  rw [hq0] at HE K0
  clear hq0
  obtain ⟨q1, hq1⟩ : ∃ q, nmB a = q := ⟨_, rfl⟩
  rw [hq1] at HE K1
  clear hq1
  rw [HE.out]
  clear HE
  have HX0 := Lib.hid (Blk.new w 110 #[.string a, .string b])
  have HO0 := Lib.hid (show Only [] w (w.alloc (.cells #[.string a, .string b] 110)) from (Only.refl [] w).alloc _)
  obtain ⟨bx0, bx1, bxl⟩ := HX0.out.facts2
  go_enter Tryd.func98, Tryd.ntmps98
  go_wp2_with (fail)
  refine (K0.out _ HO0.out).mono ?_
  rintro r w1 ⟨rfl, o1⟩
  have HO1 := Lib.hid (HO0.out.trans o1 (by simp))
  have HX1 := Lib.hid (o1.blk HX0.out (by simp))
  clear o1 bx0 bx1 bxl
  obtain ⟨bx0, bx1, bxl⟩ := HX1.out.facts2
  cases q0
  · go_wp2_with (fail)
    go_ret
    exact ⟨by simp, HO1.out⟩
  · by_cases e : nilB a = true
    · have ea : a.toList.isEmpty = true := e
      have eb : (a.toList == []) = true := by simpa [nilB] using e
      have E := Lib.hid e
      clear e
      go_wp2_with (fail)
      go_ret
      exact ⟨by simp [E.out], HO1.out⟩
    · have ea : a.toList.isEmpty = false := by simpa [nilB] using e
      have eb : (a.toList == []) = false := by simpa [nilB] using e
      have E := Lib.hid (show nilB a = false from ea)
      clear e
      go_wp2_with (fail)
      refine (K1.out _ HO1.out).mono ?_
      rintro r w2 ⟨rfl, o2⟩
      have HO2 := Lib.hid (HO1.out.trans o2 (by simp))
      clear o2 bx0 bx1 bxl
      go_wp2_with (fail)
      go_ret
      exact ⟨by simp [E.out], HO2.out⟩
set_option maxHeartbeats 4000000 in
theorem qrightLk0 {xa : ByteArray} {xb : ByteArray} {xc : ByteArray} {xd : ByteArray} {w : World} (ha : Lk.Li w (.mk xa xb xc xd)) : Calls Tryd.prog 78 #[.agg #[.string xa, .string xb, .string xc, .string xd]] w fun r w' => r = .returned (.bool (Lk.ok (.mk xa xb xc xd))) ∧ Only [] w w' := by
  have K0 := Lib.hid (fun W (o : Only [] w W) => (show Calls Tryd.prog 98 #[.agg #[.string xa, .string xb]] W fun r w' => r = .returned (.bool (endB xa xb)) ∧ Only [] W w' from rend_any ha.1 ha.2.1))
  have K1 := Lib.hid (fun W (o : Only [] w W) => (show Calls Tryd.prog 98 #[.agg #[.string xc, .string xd]] W fun r w' => r = .returned (.bool (endB xc xd)) ∧ Only [] W w' from rend_any ha.2.2.1 ha.2.2.2))
  have HE := Lib.hid (show Lk.ok (.mk xa xb xc xd) = (endB xa xb && endB xc xd) from rfl)
  obtain ⟨q0, hq0⟩ : ∃ q, endB xa xb = q := ⟨_, rfl⟩
  rw [hq0] at HE K0
  clear hq0
  obtain ⟨q1, hq1⟩ : ∃ q, endB xc xd = q := ⟨_, rfl⟩
  rw [hq1] at HE K1
  clear hq1
  show Calls Tryd.prog 78 #[.agg #[.string xa, .string xb, .string xc, .string xd]] w fun r w' => r = .returned (.bool (Lk.ok (.mk xa xb xc xd))) ∧ Only [] w w'
  rw [HE.out]
  clear HE ha
  have HX0 := Lib.hid (Blk.new w 112 #[.string xa, .string xb, .string xc, .string xd])
  have HO0 := Lib.hid (show Only [] w (w.alloc (.cells #[.string xa, .string xb, .string xc, .string xd] 112)) from (Only.refl [] w).alloc _)
  obtain ⟨bx0, bx1, bx2, bx3, bxl⟩ := HX0.out.facts4
  go_enter Tryd.func78, Tryd.ntmps78
  go_wp2_with (fail)
  refine (K0.out _ HO0.out).mono ?_
  rintro r w1 ⟨rfl, o1⟩
  have HO1 := Lib.hid (HO0.out.trans o1 (by simp))
  have HX1 := Lib.hid (o1.blk HX0.out (by simp))
  clear o1
  clear bx0 bx1 bx2 bx3 bxl
  obtain ⟨bx0, bx1, bx2, bx3, bxl⟩ := HX1.out.facts4
  cases q0
  · go_wp2_with (fail)
    go_ret
    exact ⟨by simp, HO1.out⟩
  · go_wp2_with (fail)
    refine (K1.out _ HO1.out).mono ?_
    rintro r w2 ⟨rfl, o2⟩
    have HO2 := Lib.hid (HO1.out.trans o2 (by simp))
    have HX2 := Lib.hid (o2.blk HX1.out (by simp))
    clear o2
    clear bx0 bx1 bx2 bx3 bxl
    obtain ⟨bx0, bx1, bx2, bx3, bxl⟩ := HX2.out.facts4
    go_wp2_with (fail)
    go_ret
    exact ⟨by simp, HO2.out⟩
theorem qrightLk {e : Lk} {w : World} (ha : Lk.Li w e) : Calls Tryd.prog 78 #[e.val] w fun r w' => r = .returned (.bool e.ok) ∧ Only [] w w' := by
  obtain ⟨xa, xb, xc, xd⟩ := e
  exact qrightLk0 ha
set_option maxHeartbeats 4000000 in
theorem qrightAc0 {n m a b c d : ByteArray} {w : World} (hn : okS n) (hm : okS m) (_ha : okS a) (_hb : okS b) (_hc : okS c) (_hd : okS d) : Calls Tryd.prog 79 #[.agg #[.int .i64 0, .string n, .string m, .string a, .string b, .string c, .string d]] w fun r w' => r = .returned (.bool (Ac.ok (.mk 0 n m a b c d))) ∧ Only [] w w' := by
  have HE := Lib.hid (show Ac.ok (.mk 0 n m a b c d) = (nmB n && nmB m && (nilB a && nilB b && nilB c && nilB d)) from by simp [Ac.ok, Ac.none, Ac.k_, Ac.n_, Ac.m_, Ac.a_, Ac.b_, Ac.c_, Ac.d_])
  have K0 := Lib.hid (fun W (o : Only [] w W) => (show Calls Tryd.prog 18 #[.string n] W fun r w' => r = .returned (.bool (nmB n)) ∧ Only [] W w' from refname_any hn ))
  obtain ⟨q0, hq0⟩ : ∃ q, nmB n = q := ⟨_, rfl⟩
  rw [hq0] at HE K0
  clear hq0
  have K1 := Lib.hid (fun W (o : Only [] w W) => (show Calls Tryd.prog 18 #[.string m] W fun r w' => r = .returned (.bool (nmB m)) ∧ Only [] W w' from refname_any hm ))
  obtain ⟨q1, hq1⟩ : ∃ q, nmB m = q := ⟨_, rfl⟩
  rw [hq1] at HE K1
  clear hq1
  have hEQ := eq_none a b c d
  obtain ⟨qn, hqn⟩ : ∃ q, (nilB a && nilB b && nilB c && nilB d) = q := ⟨_, rfl⟩
  rw [hqn] at hEQ
  rw [hqn] at HE
  clear hqn
  rw [HE.out]
  clear HE hn hm _ha _hb _hc _hd
  have HX0 := Lib.hid (show Blk ((w.alloc (.cells #[.int .i64 0, .string n, .string m, .string a, .string b, .string c, .string d] 120)).alloc (.cells #[.string ⟨#[]⟩, .string ⟨#[]⟩, .string ⟨#[]⟩, .string ⟨#[]⟩] 112)) w.heap.size 120 #[.int .i64 0, .string n, .string m, .string a, .string b, .string c, .string d] from (Blk.new w 120 _).alloc _)
  have hN := Blk.new (w.alloc (.cells #[.int .i64 0, .string n, .string m, .string a, .string b, .string c, .string d] 120)) 112 #[.string ⟨#[]⟩, .string ⟨#[]⟩, .string ⟨#[]⟩, .string ⟨#[]⟩]
  simp only [World.size_alloc] at hN
  have HN0 := Lib.hid hN
  clear hN
  have HO0 := Lib.hid (show Only [] w ((w.alloc (.cells #[.int .i64 0, .string n, .string m, .string a, .string b, .string c, .string d] 120)).alloc (.cells #[.string ⟨#[]⟩, .string ⟨#[]⟩, .string ⟨#[]⟩, .string ⟨#[]⟩] 112)) from ((Only.refl [] w).alloc _).alloc _)
  obtain ⟨bx0, bx1, bx2, bx3, bx4, bx5, bx6, bxl⟩ := (Blk.new w 120 #[.int .i64 0, .string n, .string m, .string a, .string b, .string c, .string d]).facts7
  have bz0 : w.heap.size < w.heap.size + 1 := Nat.lt_succ_self _
  go_enter Tryd.func79, Tryd.ntmps79
  go_wp2_with (fail)
  refine (K0.out _ HO0.out).mono ?_
  rintro r w1 ⟨rfl, o1⟩
  have HO1 := Lib.hid (HO0.out.trans o1 (by simp))
  have HX1 := Lib.hid (o1.blk HX0.out (by simp))
  have HN1 := Lib.hid (o1.blk HN0.out (by simp))
  clear o1
  clear bx0 bx1 bx2 bx3 bx4 bx5 bx6 bxl
  obtain ⟨bx0, bx1, bx2, bx3, bx4, bx5, bx6, bxl⟩ := HX1.out.facts7
  obtain ⟨by0, by1, by2, by3, byl⟩ := HN1.out.facts4
  cases q0
  · go_wp2_with (fail)
    go_ret
    exact ⟨by first | rfl | simp, HO1.out⟩
  · go_wp2_with (fail)
    refine (K1.out _ HO1.out).mono ?_
    rintro r w2 ⟨rfl, o2⟩
    have HO2 := Lib.hid (HO1.out.trans o2 (by simp))
    have HX2 := Lib.hid (o2.blk HX1.out (by simp))
    have HN2 := Lib.hid (o2.blk HN1.out (by simp))
    clear o2
    clear bx0 bx1 bx2 bx3 bx4 bx5 bx6 bxl
    obtain ⟨bx0, bx1, bx2, bx3, bx4, bx5, bx6, bxl⟩ := HX2.out.facts7
    obtain ⟨by0, by1, by2, by3, byl⟩ := HN2.out.facts4
    cases q1
    · go_wp2_with (fail)
      go_ret
      exact ⟨by first | rfl | simp, HO2.out⟩
    · go_wp2_with (fail)
      go_ret
      exact ⟨by first | rfl | simp, HO2.out⟩
set_option maxHeartbeats 4000000 in
theorem qrightAc1 {n m a b c d : ByteArray} {w : World} (hn : okS n) (_hm : okS m) (_ha : okS a) (_hb : okS b) (_hc : okS c) (_hd : okS d) : Calls Tryd.prog 79 #[.agg #[.int .i64 1, .string n, .string m, .string a, .string b, .string c, .string d]] w fun r w' => r = .returned (.bool (Ac.ok (.mk 1 n m a b c d))) ∧ Only [] w w' := by
  have HE := Lib.hid (show Ac.ok (.mk 1 n m a b c d) = (nmB n && nilB m && (nilB a && nilB b && nilB c && nilB d)) from by simp [Ac.ok, Ac.none, Ac.k_, Ac.n_, Ac.m_, Ac.a_, Ac.b_, Ac.c_, Ac.d_])
  have K0 := Lib.hid (fun W (o : Only [] w W) => (show Calls Tryd.prog 18 #[.string n] W fun r w' => r = .returned (.bool (nmB n)) ∧ Only [] W w' from refname_any hn ))
  obtain ⟨q0, hq0⟩ : ∃ q, nmB n = q := ⟨_, rfl⟩
  rw [hq0] at HE K0
  clear hq0
  have hEQ := eq_none a b c d
  obtain ⟨qn, hqn⟩ : ∃ q, (nilB a && nilB b && nilB c && nilB d) = q := ⟨_, rfl⟩
  rw [hqn] at hEQ
  rw [hqn] at HE
  clear hqn
  rw [HE.out]
  clear HE hn _hm _ha _hb _hc _hd
  have HX0 := Lib.hid (show Blk ((w.alloc (.cells #[.int .i64 1, .string n, .string m, .string a, .string b, .string c, .string d] 120)).alloc (.cells #[.string ⟨#[]⟩, .string ⟨#[]⟩, .string ⟨#[]⟩, .string ⟨#[]⟩] 112)) w.heap.size 120 #[.int .i64 1, .string n, .string m, .string a, .string b, .string c, .string d] from (Blk.new w 120 _).alloc _)
  have hN := Blk.new (w.alloc (.cells #[.int .i64 1, .string n, .string m, .string a, .string b, .string c, .string d] 120)) 112 #[.string ⟨#[]⟩, .string ⟨#[]⟩, .string ⟨#[]⟩, .string ⟨#[]⟩]
  simp only [World.size_alloc] at hN
  have HN0 := Lib.hid hN
  clear hN
  have HO0 := Lib.hid (show Only [] w ((w.alloc (.cells #[.int .i64 1, .string n, .string m, .string a, .string b, .string c, .string d] 120)).alloc (.cells #[.string ⟨#[]⟩, .string ⟨#[]⟩, .string ⟨#[]⟩, .string ⟨#[]⟩] 112)) from ((Only.refl [] w).alloc _).alloc _)
  obtain ⟨bx0, bx1, bx2, bx3, bx4, bx5, bx6, bxl⟩ := (Blk.new w 120 #[.int .i64 1, .string n, .string m, .string a, .string b, .string c, .string d]).facts7
  have bz0 : w.heap.size < w.heap.size + 1 := Nat.lt_succ_self _
  go_enter Tryd.func79, Tryd.ntmps79
  go_wp2_with (fail)
  refine (K0.out _ HO0.out).mono ?_
  rintro r w1 ⟨rfl, o1⟩
  have HO1 := Lib.hid (HO0.out.trans o1 (by simp))
  have HX1 := Lib.hid (o1.blk HX0.out (by simp))
  have HN1 := Lib.hid (o1.blk HN0.out (by simp))
  clear o1
  clear bx0 bx1 bx2 bx3 bx4 bx5 bx6 bxl
  obtain ⟨bx0, bx1, bx2, bx3, bx4, bx5, bx6, bxl⟩ := HX1.out.facts7
  obtain ⟨by0, by1, by2, by3, byl⟩ := HN1.out.facts4
  cases q0
  · go_wp2_with (fail)
    go_ret
    exact ⟨by first | rfl | simp, HO1.out⟩
  · by_cases e0 : nilB m = true
    · have e0a : m.toList.isEmpty = true := e0
      have e0b : (m.toList == []) = true := by simpa [nilB] using e0
      have E0 := Lib.hid e0
      clear e0
      go_wp2_with (fail)
      go_ret
      exact ⟨by first | rfl | simp [E0.out], HO1.out⟩
    · have e0a : m.toList.isEmpty = false := by simpa [nilB] using e0
      have e0b : (m.toList == []) = false := by simpa [nilB] using e0
      have E0 := Lib.hid (show nilB m = false from e0a)
      clear e0
      go_wp2_with (fail)
      go_ret
      exact ⟨by first | rfl | simp [E0.out], HO1.out⟩
set_option maxHeartbeats 4000000 in
theorem qrightAc2 {n m a b c d : ByteArray} {w : World} (_hn : okS n) (_hm : okS m) (ha : okS a) (hb : okS b) (hc : okS c) (hd : okS d) : Calls Tryd.prog 79 #[.agg #[.int .i64 2, .string n, .string m, .string a, .string b, .string c, .string d]] w fun r w' => r = .returned (.bool (Ac.ok (.mk 2 n m a b c d))) ∧ Only [] w w' := by
  have HE := Lib.hid (show Ac.ok (.mk 2 n m a b c d) = (nilB n && nilB m && (endB a b && endB c d)) from by simp [Ac.ok, Ac.k_, Ac.n_, Ac.m_, Ac.a_, Ac.b_, Ac.c_, Ac.d_])
  have K0 := Lib.hid (fun W (o : Only [] w W) => (show Calls Tryd.prog 78 #[.agg #[.string a, .string b, .string c, .string d]] W fun r w' => r = .returned (.bool (endB a b && endB c d)) ∧ Only [] W w' from qrightLk0 (xa := a) (xb := b) (xc := c) (xd := d) ⟨ha, hb, hc, hd⟩))
  obtain ⟨q0, hq0⟩ : ∃ q, (endB a b && endB c d) = q := ⟨_, rfl⟩
  rw [hq0] at HE K0
  clear hq0
  have hEQ := eq_none a b c d
  obtain ⟨qn, hqn⟩ : ∃ q, (nilB a && nilB b && nilB c && nilB d) = q := ⟨_, rfl⟩
  rw [hqn] at hEQ
  clear hqn
  rw [HE.out]
  clear HE _hn _hm ha hb hc hd
  have HX0 := Lib.hid (show Blk ((w.alloc (.cells #[.int .i64 2, .string n, .string m, .string a, .string b, .string c, .string d] 120)).alloc (.cells #[.string ⟨#[]⟩, .string ⟨#[]⟩, .string ⟨#[]⟩, .string ⟨#[]⟩] 112)) w.heap.size 120 #[.int .i64 2, .string n, .string m, .string a, .string b, .string c, .string d] from (Blk.new w 120 _).alloc _)
  have hN := Blk.new (w.alloc (.cells #[.int .i64 2, .string n, .string m, .string a, .string b, .string c, .string d] 120)) 112 #[.string ⟨#[]⟩, .string ⟨#[]⟩, .string ⟨#[]⟩, .string ⟨#[]⟩]
  simp only [World.size_alloc] at hN
  have HN0 := Lib.hid hN
  clear hN
  have HO0 := Lib.hid (show Only [] w ((w.alloc (.cells #[.int .i64 2, .string n, .string m, .string a, .string b, .string c, .string d] 120)).alloc (.cells #[.string ⟨#[]⟩, .string ⟨#[]⟩, .string ⟨#[]⟩, .string ⟨#[]⟩] 112)) from ((Only.refl [] w).alloc _).alloc _)
  obtain ⟨bx0, bx1, bx2, bx3, bx4, bx5, bx6, bxl⟩ := (Blk.new w 120 #[.int .i64 2, .string n, .string m, .string a, .string b, .string c, .string d]).facts7
  have bz0 : w.heap.size < w.heap.size + 1 := Nat.lt_succ_self _
  go_enter Tryd.func79, Tryd.ntmps79
  by_cases e0 : nilB n = true
  · have e0a : n.toList.isEmpty = true := e0
    have e0b : (n.toList == []) = true := by simpa [nilB] using e0
    have E0 := Lib.hid e0
    clear e0
    by_cases e1 : nilB m = true
    · have e1a : m.toList.isEmpty = true := e1
      have e1b : (m.toList == []) = true := by simpa [nilB] using e1
      have E1 := Lib.hid e1
      clear e1
      go_wp2_with (fail)
      refine (K0.out _ HO0.out).mono ?_
      rintro r w1 ⟨rfl, o1⟩
      have HO1 := Lib.hid (HO0.out.trans o1 (by simp))
      have HX1 := Lib.hid (o1.blk HX0.out (by simp))
      have HN1 := Lib.hid (o1.blk HN0.out (by simp))
      clear o1
      clear bx0 bx1 bx2 bx3 bx4 bx5 bx6 bxl
      obtain ⟨bx0, bx1, bx2, bx3, bx4, bx5, bx6, bxl⟩ := HX1.out.facts7
      obtain ⟨by0, by1, by2, by3, byl⟩ := HN1.out.facts4
      go_wp2_with (fail)
      go_ret
      exact ⟨by first | rfl | simp [E0.out, E1.out], HO1.out⟩
    · have e1a : m.toList.isEmpty = false := by simpa [nilB] using e1
      have e1b : (m.toList == []) = false := by simpa [nilB] using e1
      have E1 := Lib.hid (show nilB m = false from e1a)
      clear e1
      go_wp2_with (fail)
      go_ret
      exact ⟨by first | rfl | simp [E0.out, E1.out], HO0.out⟩
  · have e0a : n.toList.isEmpty = false := by simpa [nilB] using e0
    have e0b : (n.toList == []) = false := by simpa [nilB] using e0
    have E0 := Lib.hid (show nilB n = false from e0a)
    clear e0
    go_wp2_with (fail)
    go_ret
    exact ⟨by first | rfl | simp [E0.out], HO0.out⟩
set_option maxHeartbeats 4000000 in
theorem qrightAc3 {n m a b c d : ByteArray} {w : World} (_hn : okS n) (_hm : okS m) (ha : okS a) (hb : okS b) (hc : okS c) (hd : okS d) : Calls Tryd.prog 79 #[.agg #[.int .i64 3, .string n, .string m, .string a, .string b, .string c, .string d]] w fun r w' => r = .returned (.bool (Ac.ok (.mk 3 n m a b c d))) ∧ Only [] w w' := by
  have HE := Lib.hid (show Ac.ok (.mk 3 n m a b c d) = (nilB n && nilB m && (endB a b && endB c d)) from by simp [Ac.ok, Ac.k_, Ac.n_, Ac.m_, Ac.a_, Ac.b_, Ac.c_, Ac.d_])
  have K0 := Lib.hid (fun W (o : Only [] w W) => (show Calls Tryd.prog 78 #[.agg #[.string a, .string b, .string c, .string d]] W fun r w' => r = .returned (.bool (endB a b && endB c d)) ∧ Only [] W w' from qrightLk0 (xa := a) (xb := b) (xc := c) (xd := d) ⟨ha, hb, hc, hd⟩))
  obtain ⟨q0, hq0⟩ : ∃ q, (endB a b && endB c d) = q := ⟨_, rfl⟩
  rw [hq0] at HE K0
  clear hq0
  have hEQ := eq_none a b c d
  obtain ⟨qn, hqn⟩ : ∃ q, (nilB a && nilB b && nilB c && nilB d) = q := ⟨_, rfl⟩
  rw [hqn] at hEQ
  clear hqn
  rw [HE.out]
  clear HE _hn _hm ha hb hc hd
  have HX0 := Lib.hid (show Blk ((w.alloc (.cells #[.int .i64 3, .string n, .string m, .string a, .string b, .string c, .string d] 120)).alloc (.cells #[.string ⟨#[]⟩, .string ⟨#[]⟩, .string ⟨#[]⟩, .string ⟨#[]⟩] 112)) w.heap.size 120 #[.int .i64 3, .string n, .string m, .string a, .string b, .string c, .string d] from (Blk.new w 120 _).alloc _)
  have hN := Blk.new (w.alloc (.cells #[.int .i64 3, .string n, .string m, .string a, .string b, .string c, .string d] 120)) 112 #[.string ⟨#[]⟩, .string ⟨#[]⟩, .string ⟨#[]⟩, .string ⟨#[]⟩]
  simp only [World.size_alloc] at hN
  have HN0 := Lib.hid hN
  clear hN
  have HO0 := Lib.hid (show Only [] w ((w.alloc (.cells #[.int .i64 3, .string n, .string m, .string a, .string b, .string c, .string d] 120)).alloc (.cells #[.string ⟨#[]⟩, .string ⟨#[]⟩, .string ⟨#[]⟩, .string ⟨#[]⟩] 112)) from ((Only.refl [] w).alloc _).alloc _)
  obtain ⟨bx0, bx1, bx2, bx3, bx4, bx5, bx6, bxl⟩ := (Blk.new w 120 #[.int .i64 3, .string n, .string m, .string a, .string b, .string c, .string d]).facts7
  have bz0 : w.heap.size < w.heap.size + 1 := Nat.lt_succ_self _
  go_enter Tryd.func79, Tryd.ntmps79
  by_cases e0 : nilB n = true
  · have e0a : n.toList.isEmpty = true := e0
    have e0b : (n.toList == []) = true := by simpa [nilB] using e0
    have E0 := Lib.hid e0
    clear e0
    by_cases e1 : nilB m = true
    · have e1a : m.toList.isEmpty = true := e1
      have e1b : (m.toList == []) = true := by simpa [nilB] using e1
      have E1 := Lib.hid e1
      clear e1
      go_wp2_with (fail)
      refine (K0.out _ HO0.out).mono ?_
      rintro r w1 ⟨rfl, o1⟩
      have HO1 := Lib.hid (HO0.out.trans o1 (by simp))
      have HX1 := Lib.hid (o1.blk HX0.out (by simp))
      have HN1 := Lib.hid (o1.blk HN0.out (by simp))
      clear o1
      clear bx0 bx1 bx2 bx3 bx4 bx5 bx6 bxl
      obtain ⟨bx0, bx1, bx2, bx3, bx4, bx5, bx6, bxl⟩ := HX1.out.facts7
      obtain ⟨by0, by1, by2, by3, byl⟩ := HN1.out.facts4
      go_wp2_with (fail)
      go_ret
      exact ⟨by first | rfl | simp [E0.out, E1.out], HO1.out⟩
    · have e1a : m.toList.isEmpty = false := by simpa [nilB] using e1
      have e1b : (m.toList == []) = false := by simpa [nilB] using e1
      have E1 := Lib.hid (show nilB m = false from e1a)
      clear e1
      go_wp2_with (fail)
      go_ret
      exact ⟨by first | rfl | simp [E0.out, E1.out], HO0.out⟩
  · have e0a : n.toList.isEmpty = false := by simpa [nilB] using e0
    have e0b : (n.toList == []) = false := by simpa [nilB] using e0
    have E0 := Lib.hid (show nilB n = false from e0a)
    clear e0
    go_wp2_with (fail)
    go_ret
    exact ⟨by first | rfl | simp [E0.out], HO0.out⟩
set_option maxHeartbeats 4000000 in
theorem qrightAck {k : Int} {n m a b c d : ByteArray} {w : World} (_hn : okS n) (_hm : okS m) (_ha : okS a) (_hb : okS b) (_hc : okS c) (_hd : okS d) (h0 : k ≠ 0) (h1 : k ≠ 1) (h2 : k ≠ 2) (h3 : k ≠ 3) : Calls Tryd.prog 79 #[.agg #[.int .i64 k, .string n, .string m, .string a, .string b, .string c, .string d]] w fun r w' => r = .returned (.bool (Ac.ok (.mk k n m a b c d))) ∧ Only [] w w' := by
  have HE := Lib.hid (show Ac.ok (.mk k n m a b c d) = false from by simp [Ac.ok, Ac.k_, h0, h1, h2, h3])
  have hEQ := eq_none a b c d
  obtain ⟨qn, hqn⟩ : ∃ q, (nilB a && nilB b && nilB c && nilB d) = q := ⟨_, rfl⟩
  rw [hqn] at hEQ
  clear hqn
  have j0 : (k == 0) = false := by simp [h0]
  have j1 : (k == 1) = false := by simp [h1]
  have j2 : (k == 2) = false := by simp [h2]
  have j3 : (k == 3) = false := by simp [h3]
  clear h0 h1 h2 h3
  rw [HE.out]
  clear HE _hn _hm _ha _hb _hc _hd
  have HX0 := Lib.hid (show Blk ((w.alloc (.cells #[.int .i64 k, .string n, .string m, .string a, .string b, .string c, .string d] 120)).alloc (.cells #[.string ⟨#[]⟩, .string ⟨#[]⟩, .string ⟨#[]⟩, .string ⟨#[]⟩] 112)) w.heap.size 120 #[.int .i64 k, .string n, .string m, .string a, .string b, .string c, .string d] from (Blk.new w 120 _).alloc _)
  have hN := Blk.new (w.alloc (.cells #[.int .i64 k, .string n, .string m, .string a, .string b, .string c, .string d] 120)) 112 #[.string ⟨#[]⟩, .string ⟨#[]⟩, .string ⟨#[]⟩, .string ⟨#[]⟩]
  simp only [World.size_alloc] at hN
  have HN0 := Lib.hid hN
  clear hN
  have HO0 := Lib.hid (show Only [] w ((w.alloc (.cells #[.int .i64 k, .string n, .string m, .string a, .string b, .string c, .string d] 120)).alloc (.cells #[.string ⟨#[]⟩, .string ⟨#[]⟩, .string ⟨#[]⟩, .string ⟨#[]⟩] 112)) from ((Only.refl [] w).alloc _).alloc _)
  obtain ⟨bx0, bx1, bx2, bx3, bx4, bx5, bx6, bxl⟩ := (Blk.new w 120 #[.int .i64 k, .string n, .string m, .string a, .string b, .string c, .string d]).facts7
  have bz0 : w.heap.size < w.heap.size + 1 := Nat.lt_succ_self _
  go_enter Tryd.func79, Tryd.ntmps79
  go_wp2_with (fail)
  go_ret
  exact ⟨by first | rfl | simp, HO0.out⟩
theorem qrightAc {e : Ac} {w : World} (ha : Ac.Li w e) : Calls Tryd.prog 79 #[e.val] w fun r w' => r = .returned (.bool e.ok) ∧ Only [] w w' := by
  obtain ⟨k, n, m, a, b, c, d⟩ := e
  by_cases h0 : k = 0
  · subst h0; exact qrightAc0 ha.2.1 ha.2.2.1 ha.2.2.2.1 ha.2.2.2.2.1 ha.2.2.2.2.2.1 ha.2.2.2.2.2.2
  by_cases h1 : k = 1
  · subst h1; exact qrightAc1 ha.2.1 ha.2.2.1 ha.2.2.2.1 ha.2.2.2.2.1 ha.2.2.2.2.2.1 ha.2.2.2.2.2.2
  by_cases h2 : k = 2
  · subst h2; exact qrightAc2 ha.2.1 ha.2.2.1 ha.2.2.2.1 ha.2.2.2.2.1 ha.2.2.2.2.2.1 ha.2.2.2.2.2.2
  by_cases h3 : k = 3
  · subst h3; exact qrightAc3 ha.2.1 ha.2.2.1 ha.2.2.2.1 ha.2.2.2.2.1 ha.2.2.2.2.2.1 ha.2.2.2.2.2.2
  exact qrightAck ha.2.1 ha.2.2.1 ha.2.2.2.1 ha.2.2.2.2.1 ha.2.2.2.2.2.1 ha.2.2.2.2.2.2 h0 h1 h2 h3
set_option maxHeartbeats 4000000 in
theorem qsets_any {A : Option Addr} {cap : Nat} {l : List Se} {w : World} (hR : RowX Se.cs 6 Se.Li w A l) :
    Calls Tryd.prog 77 #[.slice A l.length cap] w fun r w' => r = .returned (.bool (setsOk l)) ∧ Only [] w w' := by
  have hlen := hR.len
  have HR := Lib.hid hR
  clear hR
  by_cases hl : l.length ≤ 10
  · have hla : decide (10 < l.length) = false := decide_eq_false (by omega)
    have hlb : decide ((10 : Int) < (l.length : Int)) = false := decide_eq_false (by omega)
    have HE := Lib.hid (show setsOk l = l.all Se.ok from by show (decide (l.length ≤ 10) && l.all Se.ok) = _; rw [decide_eq_true hl]; rfl)
    clear hl
    rw [HE.out]
    clear HE
    go_enter Tryd.func77, Tryd.ntmps77
    go_wp2_with (fail)
    clear hla hlb
    go_loopw [3] (fun i wr => ∃ k : Nat, i = .int .i64 k ∧ k ≤ l.length ∧ Hid ((l.take k).all Se.ok = true) ∧ Hid (Only [] w wr)) (fun i _ => l.length - (intOf i).toNat)
    case atStart => exact ⟨0, rfl, Nat.zero_le _, Lib.hid (by simp), Lib.hid (Only.refl _ _)⟩
    case round =>
      obtain ⟨k, rfl, hk, HP, HOr⟩ := hrel
      by_cases hlt : k < l.length
      · have hki : (k : Int) < (l.length : Int) := by omega
        have hk0 : (0 : Int) ≤ (k : Int) := by omega
        obtain ⟨e, he⟩ : ∃ e, l[k]? = some e := ⟨_, List.getElem?_eq_getElem hlt⟩
        have hmem : e ∈ l := List.mem_of_getElem? he
        have hsub := Se.Li.keep _ _ _ (HR.out.sub e hmem) HOr.out
        have hrow := (HR.out.row k _ he).keep HOr.out
        have HTK := Lib.hid (show (l.take (k + 1)).all Se.ok = ((l.take k).all Se.ok && e.ok) from by rw [List.take_add_one, he, List.all_append]; simp)
        have HBAD := Lib.hid (show e.ok = false → l.all Se.ok = false from fun h => by rw [List.all_eq_false]; exact ⟨e, hmem, by rw [h]; decide⟩)
        obtain ⟨xn, xeo, xen, xes, xeu, xeA, xec, xel⟩ := e
        obtain ⟨b, o, rfl, hb, c0, c1, c2, c3, c4, c5⟩ := Se.at_cells hrow
        have hCA := fun W (o : Only [] wr W) => refname_any (w := W) hsub.1
        have hCB := fun W (o : Only [] wr W) => (show Calls Tryd.prog 22 #[.agg #[.int .i64 xeo, .int .i64 xen, .string xes, .string xeu, .slice xeA xel.length xec], .int .i64 20] W fun r w' => r = .returned (.bool ((Ex.mk xeo xen xes xeu xeA xec xel).tr.ok)) ∧ Only [] W w' from rr_ok (hsub.2.keep o))
        have hE : Se.ok (.mk xn xeo xen xes xeu xeA xec xel) = (nmB xn && (Ex.mk xeo xen xes xeu xeA xec xel).tr.ok) := rfl
        obtain ⟨p0, hp0⟩ : ∃ q, nmB xn = q := ⟨_, rfl⟩
        obtain ⟨p1, hp1⟩ : ∃ q, (Ex.mk xeo xen xes xeu xeA xec xel).tr.ok = q := ⟨_, rfl⟩
        simp only [hp0] at hCA hE
        simp only [hp1] at hCB hE
        have HCA := Lib.hid hCA
        have HCB := Lib.hid hCB
        have HE := Lib.hid hE
        have HCC := Lib.hid (show b < wr.heap.size ∧ wr.cell? ⟨b, o + k * 6, none⟩ = some (.string xn) ∧ wr.cell? ⟨b, o + k * 6 + 1, none⟩ = some (.int .i64 xeo) ∧ wr.cell? ⟨b, o + k * 6 + 2, none⟩ = some (.int .i64 xen) ∧ wr.cell? ⟨b, o + k * 6 + 3, none⟩ = some (.string xes) ∧ wr.cell? ⟨b, o + k * 6 + 4, none⟩ = some (.string xeu) ∧ wr.cell? ⟨b, o + k * 6 + 5, none⟩ = some (.slice xeA xel.length xec) from ⟨hb, c0, c1, c2, c3, c4, c5⟩)
        clear he hmem hsub hrow hCA hCB hE hp0 hp1
        go_wp2_with (fail)
        refine (HCA.out _ (Only.refl _ _)).mono ?_
        rintro r w3 ⟨rfl, o3⟩
        have HO3 := Lib.hid o3
        clear o3 hb c0 c1 c2 c3 c4 c5
        cases p0
        · go_wp2_with (fail)
          go_ret
          exact ⟨by rw [HBAD.out HE.out]; rfl, HOr.out.trans HO3.out (by simp)⟩
        · have hb := Nat.lt_of_lt_of_le HCC.out.1 HO3.out.size
          have c1 := (HO3.out.cell (p := ⟨b, o + k * 6 + 1, none⟩) HCC.out.1 (by simp)).trans HCC.out.2.2.1
          have c2 := (HO3.out.cell (p := ⟨b, o + k * 6 + 2, none⟩) HCC.out.1 (by simp)).trans HCC.out.2.2.2.1
          have c3 := (HO3.out.cell (p := ⟨b, o + k * 6 + 3, none⟩) HCC.out.1 (by simp)).trans HCC.out.2.2.2.2.1
          have c4 := (HO3.out.cell (p := ⟨b, o + k * 6 + 4, none⟩) HCC.out.1 (by simp)).trans HCC.out.2.2.2.2.2.1
          have c5 := (HO3.out.cell (p := ⟨b, o + k * 6 + 5, none⟩) HCC.out.1 (by simp)).trans HCC.out.2.2.2.2.2.2
          go_wp2_with (fail)
          refine (HCB.out _ HO3.out).mono ?_
          rintro r w4 ⟨rfl, o4⟩
          have HO4 := Lib.hid (HOr.out.trans (HO3.out.trans o4 (by simp)) (by simp))
          clear o4 hb c1 c2 c3 c4 c5
          cases p1
          · go_wp2_with (fail)
            go_ret
            exact ⟨by rw [HBAD.out HE.out]; rfl, HO4.out⟩
          · go_wp2_with (fail)
            go_roundw
            case rel => exact ⟨k + 1, by go_num, by omega, Lib.hid (by rw [HTK.out, HP.out, HE.out]; rfl), HO4⟩
            case measure => simp [intOf] <;> omega
      · obtain rfl : k = l.length := by omega
        have iz : ¬ (l.length : Int) < (l.length : Int) := by omega
        go_wp2_with (fail)
        go_ret
        exact ⟨by have := HP.out; rw [List.take_length] at this; rw [this]; rfl, HOr.out⟩
  · have hla : decide (10 < l.length) = true := decide_eq_true (by omega)
    have hlb : decide ((10 : Int) < (l.length : Int)) = true := decide_eq_true (by omega)
    have HE := Lib.hid (show setsOk l = false from by show (decide (l.length ≤ 10) && l.all Se.ok) = _; rw [decide_eq_false hl]; rfl)
    clear hl
    go_enter Tryd.func77, Tryd.ntmps77
    go_wp2_with (fail)
    go_ret
    exact ⟨by rw [HE.out]; rfl, Only.refl _ _⟩
set_option maxHeartbeats 4000000 in
theorem qports_any {A : Option Addr} {cap : Nat} {l : List Po} {w : World} (hR : RowX Po.cs 3 Po.Li w A l) :
    Calls Tryd.prog 76 #[.slice A l.length cap] w fun r w' => r = .returned (.bool (portsOk l)) ∧ Only [] w w' := by
  have hlen := hR.len
  have HR := Lib.hid hR
  clear hR
  by_cases hl : l.length ≤ 8
  · have hla : decide (8 < l.length) = false := decide_eq_false (by omega)
    have hlb : decide ((8 : Int) < (l.length : Int)) = false := decide_eq_false (by omega)
    have HE := Lib.hid (show portsOk l = l.all Po.ok from by show (decide (l.length ≤ 8) && l.all Po.ok) = _; rw [decide_eq_true hl]; rfl)
    clear hl
    rw [HE.out]
    clear HE
    go_enter Tryd.func76, Tryd.ntmps76
    go_wp2_with (fail)
    clear hla hlb
    go_loopw [3] (fun i wr => ∃ k : Nat, i = .int .i64 k ∧ k ≤ l.length ∧ Hid ((l.take k).all Po.ok = true) ∧ Hid (Only [] w wr)) (fun i _ => l.length - (intOf i).toNat)
    case atStart => exact ⟨0, rfl, Nat.zero_le _, Lib.hid (by simp), Lib.hid (Only.refl _ _)⟩
    case round =>
      obtain ⟨k, rfl, hk, HP, HOr⟩ := hrel
      by_cases hlt : k < l.length
      · have hki : (k : Int) < (l.length : Int) := by omega
        have hk0 : (0 : Int) ≤ (k : Int) := by omega
        obtain ⟨e, he⟩ : ∃ e, l[k]? = some e := ⟨_, List.getElem?_eq_getElem hlt⟩
        have hmem : e ∈ l := List.mem_of_getElem? he
        have hsub := Po.Li.keep _ _ _ (HR.out.sub e hmem) HOr.out
        have hrow := (HR.out.row k _ he).keep HOr.out
        have HTK := Lib.hid (show (l.take (k + 1)).all Po.ok = ((l.take k).all Po.ok && e.ok) from by rw [List.take_add_one, he, List.all_append]; simp)
        have HBAD := Lib.hid (show e.ok = false → l.all Po.ok = false from fun h => by rw [List.all_eq_false]; exact ⟨e, hmem, by rw [h]; decide⟩)
        obtain ⟨xn, xtk, xtA, xtc, xtl⟩ := e
        obtain ⟨b, o, rfl, hb, c0, c1, c2⟩ := Po.at_cells hrow
        have hCA := fun W (o : Only [] wr W) => refname_any (w := W) hsub.1
        have hCB := fun W (o : Only [] wr W) => (show Calls Tryd.prog 97 #[.agg #[.int .i64 xtk, .slice xtA xtl.length xtc], .int .i64 3] W fun r w' => r = .returned (.bool ((Tx.mk xtk xtA xtc xtl).tr.ok 3)) ∧ Only [] W w' from refrightT (Tx.mk xtk xtA xtc xtl) W (hsub.2.keep o) 3 (by omega))
        have hE : Po.ok (.mk xn xtk xtA xtc xtl) = (nmB xn && (Tx.mk xtk xtA xtc xtl).tr.ok 3) := rfl
        obtain ⟨p0, hp0⟩ : ∃ q, nmB xn = q := ⟨_, rfl⟩
        obtain ⟨p1, hp1⟩ : ∃ q, (Tx.mk xtk xtA xtc xtl).tr.ok 3 = q := ⟨_, rfl⟩
        simp only [hp0] at hCA hE
        simp only [hp1] at hCB hE
        have HCA := Lib.hid hCA
        have HCB := Lib.hid hCB
        have HE := Lib.hid hE
        have HCC := Lib.hid (show b < wr.heap.size ∧ wr.cell? ⟨b, o + k * 3, none⟩ = some (.string xn) ∧ wr.cell? ⟨b, o + k * 3 + 1, none⟩ = some (.int .i64 xtk) ∧ wr.cell? ⟨b, o + k * 3 + 2, none⟩ = some (.slice xtA xtl.length xtc) from ⟨hb, c0, c1, c2⟩)
        clear he hmem hsub hrow hCA hCB hE hp0 hp1
        go_wp2_with (fail)
        refine (HCA.out _ (Only.refl _ _)).mono ?_
        rintro r w3 ⟨rfl, o3⟩
        have HO3 := Lib.hid o3
        clear o3 hb c0 c1 c2
        cases p0
        · go_wp2_with (fail)
          go_ret
          exact ⟨by rw [HBAD.out HE.out]; rfl, HOr.out.trans HO3.out (by simp)⟩
        · have hb := Nat.lt_of_lt_of_le HCC.out.1 HO3.out.size
          have c1 := (HO3.out.cell (p := ⟨b, o + k * 3 + 1, none⟩) HCC.out.1 (by simp)).trans HCC.out.2.2.1
          have c2 := (HO3.out.cell (p := ⟨b, o + k * 3 + 2, none⟩) HCC.out.1 (by simp)).trans HCC.out.2.2.2
          go_wp2_with (fail)
          refine (HCB.out _ HO3.out).mono ?_
          rintro r w4 ⟨rfl, o4⟩
          have HO4 := Lib.hid (HOr.out.trans (HO3.out.trans o4 (by simp)) (by simp))
          clear o4 hb c1 c2
          cases p1
          · go_wp2_with (fail)
            go_ret
            exact ⟨by rw [HBAD.out HE.out]; rfl, HO4.out⟩
          · go_wp2_with (fail)
            go_roundw
            case rel => exact ⟨k + 1, by go_num, by omega, Lib.hid (by rw [HTK.out, HP.out, HE.out]; rfl), HO4⟩
            case measure => simp [intOf] <;> omega
      · obtain rfl : k = l.length := by omega
        have iz : ¬ (l.length : Int) < (l.length : Int) := by omega
        go_wp2_with (fail)
        go_ret
        exact ⟨by have := HP.out; rw [List.take_length] at this; rw [this]; rfl, HOr.out⟩
  · have hla : decide (8 < l.length) = true := decide_eq_true (by omega)
    have hlb : decide ((8 : Int) < (l.length : Int)) = true := decide_eq_true (by omega)
    have HE := Lib.hid (show portsOk l = false from by show (decide (l.length ≤ 8) && l.all Po.ok) = _; rw [decide_eq_false hl]; rfl)
    clear hl
    go_enter Tryd.func76, Tryd.ntmps76
    go_wp2_with (fail)
    go_ret
    exact ⟨by rw [HE.out]; rfl, Only.refl _ _⟩
end Go.Proofs.YtfnacnlaphpflaaDoor
