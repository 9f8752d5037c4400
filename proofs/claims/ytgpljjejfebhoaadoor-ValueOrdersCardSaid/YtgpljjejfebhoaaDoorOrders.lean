/- ValueOrders, walked. -/
import Derived.Test.YtgpljjejfebhoaaDoorCmps
import Derived.Test.YtgpljjejfebhoaaDoorRText
import Derived.Test.YtgpljjejfebhoaaDoorRights
namespace Go.Proofs.YtgpljjejfebhoaaDoor
open Go.RowKit Go.Kx Go.Val
set_option maxRecDepth 100000
theorem rcmp_anti (a b : Vt) : rcmp a b = - rcmp b a := by
  rw [rcmp_def, rcmp_def]
  have := (Vt.cmp_good a).anti b
  by_cases h : a.ok 3 = true ∧ b.ok 3 = true
  · rw [if_pos h, if_pos ⟨h.2, h.1⟩]; exact this
  · rw [if_neg h, if_neg (fun k => h ⟨k.2, k.1⟩)]; rfl
theorem rcmp_rng (a b : Vt) : -1 ≤ rcmp a b ∧ rcmp a b ≤ 1 := by
  rw [rcmp_def]
  have := (Vt.cmp_good a).rng b
  split <;> omega
theorem rcmp_no {a b : Vt} (h : a.ok 3 = false ∨ b.ok 3 = false) : rcmp a b = 0 := by
  rw [rcmp_def, if_neg]
  rintro ⟨h1, h2⟩
  rcases h with h | h <;> simp_all
theorem rcmp_yes {a b : Vt} (h1 : a.ok 3 = true) (h2 : b.ok 3 = true) : rcmp a b = a.cmp b := by rw [rcmp_def, if_pos ⟨h1, h2⟩]
theorem str_inj {a b : List UInt8} (h : (⟨a.toArray⟩ : ByteArray) = ⟨b.toArray⟩) : a = b := by
  injection h with h
  simpa using h
set_option maxHeartbeats 4000000 in
theorem orders_any {e1 e2 e3 : Vx} {w : World} (hL1 : LiesV w e1) (hL2 : LiesV w e2) (hL3 : LiesV w e3) (hT : Tab10 w) : Calls Tryd.prog 7 #[e1.val, e2.val, e3.val] w fun r w' => r = .returned (.bool true) ∧ Only [] w w' := by
  have C1 := Lib.hid (fun W (o : Only [] w W) => awake_any (hT.only o))
  have CF := Lib.hid (fun W (o : Only [] w W) => few_lit (l := [e1, e2, e3]) (w := W) (fun e he => by simp at he; rcases he with rfl | rfl | rfl; exact hL1.keep o; exact hL2.keep o; exact hL3.keep o) (by simp))
  have D12 := Lib.hid (fun W (o : Only [] w W) => cmp_any e1 e2 W (hL1.keep o) (hL2.keep o))
  have D21 := Lib.hid (fun W (o : Only [] w W) => cmp_any e2 e1 W (hL2.keep o) (hL1.keep o))
  have D23 := Lib.hid (fun W (o : Only [] w W) => cmp_any e2 e3 W (hL2.keep o) (hL3.keep o))
  have D13 := Lib.hid (fun W (o : Only [] w W) => cmp_any e1 e3 W (hL1.keep o) (hL3.keep o))
  have T1 := Lib.hid (fun W (o : Only [] w W) => topV (hL1.keep o))
  have T2 := Lib.hid (fun W (o : Only [] w W) => topV (hL2.keep o))
  have T3 := Lib.hid (fun W (o : Only [] w W) => topV (hL3.keep o))
  have DS := Lib.hid (fun W (o : Only [] w W) => sameV e1 e2 W (hL1.keep o) (hL2.keep o))
  have X1 := Lib.hid (fun W (o : Only [] w W) => totextV (hL1.keep o) (hT.only o))
  have X2 := Lib.hid (fun W (o : Only [] w W) => totextV (hL2.keep o) (hT.only o))
  have hrng := rcmp_rng e2.tr e1.tr
  have HZ := Lib.hid (fun (h : e1.tr.ok 3 = false ∨ e2.tr.ok 3 = false) => rcmp_no (h.symm))
  have HSM := Lib.hid (fun (h1 : e1.tr.ok 3 = true) (h2 : e2.tr.ok 3 = true) => (show ((-(rcmp e2.tr e1.tr)) == 0) = e1.tr.same e2.tr from by
    rw [← rcmp_anti, rcmp_yes h1 h2, Bool.eq_iff_iff, beq_iff_eq, (Vt.cmp_good e1.tr).zero, Vt.same_iff]))
  have HTX := Lib.hid (fun (h1 : e1.tr.ok 3 = true) (h2 : e2.tr.ok 3 = true) => (show (e1.tr.text = e2.tr.text ↔ e1.tr.same e2.tr = true) from by
    rw [text_yes h1, text_yes h2, Vt.same_iff]
    exact ⟨fun h => txt_inj h1 h2 h, fun h => by rw [h]⟩))
  have HTR := Lib.hid (fun (h1 : e1.tr.ok 3 = true) (h2 : e2.tr.ok 3 = true) (h3 : e3.tr.ok 3 = true) => (show -(rcmp e2.tr e1.tr) ≤ 0 → rcmp e2.tr e3.tr ≤ 0 → rcmp e1.tr e3.tr ≤ 0 from by
    rw [← rcmp_anti, rcmp_yes h1 h2, rcmp_yes h2 h3, rcmp_yes h1 h3]
    exact (Vt.cmp_good e1.tr).trans e2.tr e3.tr))
  rw [rcmp_anti e1.tr e2.tr] at D12
  obtain ⟨fb, hfb⟩ : ∃ z, fewB [e1, e2, e3] = z := ⟨_, rfl⟩
  obtain ⟨q1, hq1⟩ : ∃ z, e1.tr.ok 3 = z := ⟨_, rfl⟩
  obtain ⟨q2, hq2⟩ : ∃ z, e2.tr.ok 3 = z := ⟨_, rfl⟩
  obtain ⟨q3, hq3⟩ : ∃ z, e3.tr.ok 3 = z := ⟨_, rfl⟩
  obtain ⟨y, hy⟩ : ∃ z, rcmp e2.tr e1.tr = z := ⟨_, rfl⟩
  obtain ⟨u, hu⟩ : ∃ z, rcmp e2.tr e3.tr = z := ⟨_, rfl⟩
  obtain ⟨v, hv⟩ : ∃ z, rcmp e1.tr e3.tr = z := ⟨_, rfl⟩
  obtain ⟨sm, hsm⟩ : ∃ z, e1.tr.same e2.tr = z := ⟨_, rfl⟩
  obtain ⟨ta, hta⟩ : ∃ z, e1.tr.text = z := ⟨_, rfl⟩
  obtain ⟨tb, htb⟩ : ∃ z, e2.tr.text = z := ⟨_, rfl⟩
  rw [hfb] at CF
  rw [hq1] at T1 HZ HSM HTX HTR
  rw [hq2] at T2 HZ HSM HTX HTR
  rw [hq3] at T3 HTR
  rw [hy] at D12 D21 hrng HZ HSM HTR
  rw [hu] at D23 HTR
  rw [hv] at D13 HTR
  rw [hsm] at DS HSM HTX
  rw [hta] at X1 HTX
  rw [htb] at X2 HTX
  clear hL1 hL2 hL3 hT hfb hq1 hq2 hq3 hy hu hv hsm hta htb
  have y1 := hrng.1
  have y2 := hrng.2
  clear hrng
  have e1' : decide (-y < -1) = false := decide_eq_false (by omega)
  have e2' : decide (1 < -y) = false := decide_eq_false (by omega)
  obtain ⟨k1, n1, s1, A1, cap1, l1⟩ := e1
  obtain ⟨k2, n2, s2, A2, cap2, l2⟩ := e2
  obtain ⟨k3, n3, s3, A3, cap3, l3⟩ := e3
  have hb1 := Blk.new (w) 34 #[.int .i64 k1, .int .i64 n1, .string s1, .slice A1 l1.length cap1]
  have hb2 := Blk.new ((w).alloc (.cells #[.int .i64 k1, .int .i64 n1, .string s1, .slice A1 l1.length cap1] 34)) 34 #[.int .i64 k2, .int .i64 n2, .string s2, .slice A2 l2.length cap2]
  rw [show ((w).alloc (.cells #[.int .i64 k1, .int .i64 n1, .string s1, .slice A1 l1.length cap1] 34)).heap.size = w.heap.size + 1 by simp] at hb2
  have hb3 := Blk.new (((w).alloc (.cells #[.int .i64 k1, .int .i64 n1, .string s1, .slice A1 l1.length cap1] 34)).alloc (.cells #[.int .i64 k2, .int .i64 n2, .string s2, .slice A2 l2.length cap2] 34)) 34 #[.int .i64 k3, .int .i64 n3, .string s3, .slice A3 l3.length cap3]
  rw [show (((w).alloc (.cells #[.int .i64 k1, .int .i64 n1, .string s1, .slice A1 l1.length cap1] 34)).alloc (.cells #[.int .i64 k2, .int .i64 n2, .string s2, .slice A2 l2.length cap2] 34)).heap.size = w.heap.size + 2 by simp] at hb3
  have X10 := Lib.hid (show Blk ((((w).alloc (.cells #[.int .i64 k1, .int .i64 n1, .string s1, .slice A1 l1.length cap1] 34)).alloc (.cells #[.int .i64 k2, .int .i64 n2, .string s2, .slice A2 l2.length cap2] 34)).alloc (.cells #[.int .i64 k3, .int .i64 n3, .string s3, .slice A3 l3.length cap3] 34)) (w.heap.size) 34 #[.int .i64 k1, .int .i64 n1, .string s1, .slice A1 l1.length cap1] from (Blk.alloc (Blk.alloc hb1 _) _))
  have X20 := Lib.hid (show Blk ((((w).alloc (.cells #[.int .i64 k1, .int .i64 n1, .string s1, .slice A1 l1.length cap1] 34)).alloc (.cells #[.int .i64 k2, .int .i64 n2, .string s2, .slice A2 l2.length cap2] 34)).alloc (.cells #[.int .i64 k3, .int .i64 n3, .string s3, .slice A3 l3.length cap3] 34)) (w.heap.size + 1) 34 #[.int .i64 k2, .int .i64 n2, .string s2, .slice A2 l2.length cap2] from (Blk.alloc hb2 _))
  have X30 := Lib.hid (show Blk ((((w).alloc (.cells #[.int .i64 k1, .int .i64 n1, .string s1, .slice A1 l1.length cap1] 34)).alloc (.cells #[.int .i64 k2, .int .i64 n2, .string s2, .slice A2 l2.length cap2] 34)).alloc (.cells #[.int .i64 k3, .int .i64 n3, .string s3, .slice A3 l3.length cap3] 34)) (w.heap.size + 2) 34 #[.int .i64 k3, .int .i64 n3, .string s3, .slice A3 l3.length cap3] from hb3)
  have O0 := Lib.hid (show Only [] w ((((w).alloc (.cells #[.int .i64 k1, .int .i64 n1, .string s1, .slice A1 l1.length cap1] 34)).alloc (.cells #[.int .i64 k2, .int .i64 n2, .string s2, .slice A2 l2.length cap2] 34)).alloc (.cells #[.int .i64 k3, .int .i64 n3, .string s3, .slice A3 l3.length cap3] 34)) from (((Only.refl [] w).alloc _).alloc _).alloc _)
  clear hb1 hb2 hb3
  show Calls Tryd.prog 7 #[.agg #[.int .i64 k1, .int .i64 n1, .string s1, .slice A1 l1.length cap1], .agg #[.int .i64 k2, .int .i64 n2, .string s2, .slice A2 l2.length cap2], .agg #[.int .i64 k3, .int .i64 n3, .string s3, .slice A3 l3.length cap3]] w _
  have CF2 := Lib.hid (show ∀ W, Only [] w W → Calls Tryd.prog 19 #[.slice (some ⟨W.heap.size, 0, none⟩) 3 3] (W.alloc (.cells #[.int .i64 k1, .int .i64 n1, .string s1, .slice A1 l1.length cap1, .int .i64 k2, .int .i64 n2, .string s2, .slice A2 l2.length cap2, .int .i64 k3, .int .i64 n3, .string s3, .slice A3 l3.length cap3] 34)) _ from CF.out)
  clear CF
  go_enter Tryd.func7, Tryd.ntmps7
  go_wp2_with (fail)
  refine (C1.out _ O0.out).mono ?_
  rintro r w1 ⟨rfl, o1⟩
  have O1 := Lib.hid (O0.out.trans o1 (by simp))
  have X11 := Lib.hid (o1.blk X10.out (by simp))
  have X21 := Lib.hid (o1.blk X20.out (by simp))
  have X31 := Lib.hid (o1.blk X30.out (by simp))
  clear o1 
  obtain ⟨b10, b11, b12, b13, bl1⟩ := X11.out.facts4
  obtain ⟨b20, b21, b22, b23, bl2⟩ := X21.out.facts4
  obtain ⟨b30, b31, b32, b33, bl3⟩ := X31.out.facts4
  go_wp2_with (fail)
  refine (CF2.out _ O1.out).mono ?_
  rintro r w2 ⟨rfl, o2⟩
  have O2 := Lib.hid (O1.out.trans o2 (by simp))
  have X12 := Lib.hid (o2.blk X11.out (by simp))
  have X22 := Lib.hid (o2.blk X21.out (by simp))
  have X32 := Lib.hid (o2.blk X31.out (by simp))
  clear o2 
  clear b10 b11 b12 b13 bl1 b20 b21 b22 b23 bl2 b30 b31 b32 b33 bl3
  obtain ⟨b10, b11, b12, b13, bl1⟩ := X12.out.facts4
  obtain ⟨b20, b21, b22, b23, bl2⟩ := X22.out.facts4
  obtain ⟨b30, b31, b32, b33, bl3⟩ := X32.out.facts4
  cases fb with
  | false =>
    go_wp2_with (fail)
    refine (C1.out _ O2.out).mono ?_
    rintro r w3 ⟨rfl, o3⟩
    have O3 := Lib.hid (O2.out.trans o3 (by simp))
    have X13 := Lib.hid (o3.blk X12.out (by simp))
    have X23 := Lib.hid (o3.blk X22.out (by simp))
    have X33 := Lib.hid (o3.blk X32.out (by simp))
    clear o3 
    clear b10 b11 b12 b13 bl1 b20 b21 b22 b23 bl2 b30 b31 b32 b33 bl3
    go_wp2_with (fail)
    go_ret
    exact ⟨rfl, O3.out⟩
  | true =>
    go_wp2_with (fail)
    refine (D12.out _ O2.out).mono ?_
    rintro r w3 ⟨rfl, o3⟩
    have O3 := Lib.hid (O2.out.trans o3 (by simp))
    have X13 := Lib.hid (o3.blk X12.out (by simp))
    have X23 := Lib.hid (o3.blk X22.out (by simp))
    have X33 := Lib.hid (o3.blk X32.out (by simp))
    clear o3 
    clear b10 b11 b12 b13 bl1 b20 b21 b22 b23 bl2 b30 b31 b32 b33 bl3
    obtain ⟨b10, b11, b12, b13, bl1⟩ := X13.out.facts4
    obtain ⟨b20, b21, b22, b23, bl2⟩ := X23.out.facts4
    obtain ⟨b30, b31, b32, b33, bl3⟩ := X33.out.facts4
    go_wp2_with (fail)
    refine (D21.out _ O3.out).mono ?_
    rintro r w4 ⟨rfl, o4⟩
    have O4 := Lib.hid (O3.out.trans o4 (by simp))
    have X14 := Lib.hid (o4.blk X13.out (by simp))
    have X24 := Lib.hid (o4.blk X23.out (by simp))
    have X34 := Lib.hid (o4.blk X33.out (by simp))
    clear o4 
    clear b10 b11 b12 b13 bl1 b20 b21 b22 b23 bl2 b30 b31 b32 b33 bl3
    obtain ⟨b10, b11, b12, b13, bl1⟩ := X14.out.facts4
    obtain ⟨b20, b21, b22, b23, bl2⟩ := X24.out.facts4
    obtain ⟨b30, b31, b32, b33, bl3⟩ := X34.out.facts4
    by_cases hq : q1 = false ∨ q2 = false
    · have hz := HZ.out hq
      subst hz
      clear HZ HSM HTX HTR y1 y2 e1' e2'
      have hq9 := Lib.hid hq
      clear hq
      go_wp2_with (fail)
      refine (T1.out _ O4.out).mono ?_
      rintro r w5 ⟨rfl, o5⟩
      have O5 := Lib.hid (O4.out.trans o5 (by simp))
      have X15 := Lib.hid (o5.blk X14.out (by simp))
      have X25 := Lib.hid (o5.blk X24.out (by simp))
      have X35 := Lib.hid (o5.blk X34.out (by simp))
      clear o5 
      clear b10 b11 b12 b13 bl1 b20 b21 b22 b23 bl2 b30 b31 b32 b33 bl3
      obtain ⟨b10, b11, b12, b13, bl1⟩ := X15.out.facts4
      obtain ⟨b20, b21, b22, b23, bl2⟩ := X25.out.facts4
      obtain ⟨b30, b31, b32, b33, bl3⟩ := X35.out.facts4
      cases q1 with
      | false =>
        go_wp2_with (fail)
        refine (T3.out _ O5.out).mono ?_
        rintro r w6 ⟨rfl, o6⟩
        have O6 := Lib.hid (O5.out.trans o6 (by simp))
        have X16 := Lib.hid (o6.blk X15.out (by simp))
        have X26 := Lib.hid (o6.blk X25.out (by simp))
        have X36 := Lib.hid (o6.blk X35.out (by simp))
        clear o6 
        clear b10 b11 b12 b13 bl1 b20 b21 b22 b23 bl2 b30 b31 b32 b33 bl3
        cases q3 <;>
          (go_wp2_with (fail)
           go_ret
           exact ⟨rfl, O6.out⟩)
      | true =>
        go_wp2_with (fail)
        refine (T2.out _ O5.out).mono ?_
        rintro r w6 ⟨rfl, o6⟩
        have O6 := Lib.hid (O5.out.trans o6 (by simp))
        have X16 := Lib.hid (o6.blk X15.out (by simp))
        have X26 := Lib.hid (o6.blk X25.out (by simp))
        have X36 := Lib.hid (o6.blk X35.out (by simp))
        clear o6 
        clear b10 b11 b12 b13 bl1 b20 b21 b22 b23 bl2 b30 b31 b32 b33 bl3
        obtain ⟨b10, b11, b12, b13, bl1⟩ := X16.out.facts4
        obtain ⟨b20, b21, b22, b23, bl2⟩ := X26.out.facts4
        obtain ⟨b30, b31, b32, b33, bl3⟩ := X36.out.facts4
        have hq2 : q2 = false := by rcases hq9.out with h | h; cases h; exact h
        subst hq2
        go_wp2_with (fail)
        refine (T3.out _ O6.out).mono ?_
        rintro r w7 ⟨rfl, o7⟩
        have O7 := Lib.hid (O6.out.trans o7 (by simp))
        have X17 := Lib.hid (o7.blk X16.out (by simp))
        have X27 := Lib.hid (o7.blk X26.out (by simp))
        have X37 := Lib.hid (o7.blk X36.out (by simp))
        clear o7 
        clear b10 b11 b12 b13 bl1 b20 b21 b22 b23 bl2 b30 b31 b32 b33 bl3
        cases q3 <;>
          (go_wp2_with (fail)
           go_ret
           exact ⟨rfl, O7.out⟩)
    · obtain ⟨rfl, rfl⟩ : q1 = true ∧ q2 = true := by cases q1 <;> cases q2 <;> simp_all
      have hsm0 := HSM.out (by first | rfl | trivial) (by first | rfl | trivial)
      have HTX0 := Lib.hid (HTX.out (by first | rfl | trivial) (by first | rfl | trivial))
      have HS0 := Lib.hid hsm0
      clear HZ HSM HTX hq hsm0
      go_wp2_with (fail)
      refine (T1.out _ O4.out).mono ?_
      rintro r w5 ⟨rfl, o5⟩
      have O5 := Lib.hid (O4.out.trans o5 (by simp))
      have X15 := Lib.hid (o5.blk X14.out (by simp))
      have X25 := Lib.hid (o5.blk X24.out (by simp))
      have X35 := Lib.hid (o5.blk X34.out (by simp))
      clear o5 
      clear b10 b11 b12 b13 bl1 b20 b21 b22 b23 bl2 b30 b31 b32 b33 bl3
      obtain ⟨b10, b11, b12, b13, bl1⟩ := X15.out.facts4
      obtain ⟨b20, b21, b22, b23, bl2⟩ := X25.out.facts4
      obtain ⟨b30, b31, b32, b33, bl3⟩ := X35.out.facts4
      go_wp2_with (fail)
      refine (T2.out _ O5.out).mono ?_
      rintro r w6 ⟨rfl, o6⟩
      have O6 := Lib.hid (O5.out.trans o6 (by simp))
      have X16 := Lib.hid (o6.blk X15.out (by simp))
      have X26 := Lib.hid (o6.blk X25.out (by simp))
      have X36 := Lib.hid (o6.blk X35.out (by simp))
      clear o6 
      clear b10 b11 b12 b13 bl1 b20 b21 b22 b23 bl2 b30 b31 b32 b33 bl3
      obtain ⟨b10, b11, b12, b13, bl1⟩ := X16.out.facts4
      obtain ⟨b20, b21, b22, b23, bl2⟩ := X26.out.facts4
      obtain ⟨b30, b31, b32, b33, bl3⟩ := X36.out.facts4
      go_wp2_with (fail)
      refine (T3.out _ O6.out).mono ?_
      rintro r w7 ⟨rfl, o7⟩
      have O7 := Lib.hid (O6.out.trans o7 (by simp))
      have X17 := Lib.hid (o7.blk X16.out (by simp))
      have X27 := Lib.hid (o7.blk X26.out (by simp))
      have X37 := Lib.hid (o7.blk X36.out (by simp))
      clear o7 
      clear b10 b11 b12 b13 bl1 b20 b21 b22 b23 bl2 b30 b31 b32 b33 bl3
      obtain ⟨b10, b11, b12, b13, bl1⟩ := X17.out.facts4
      obtain ⟨b20, b21, b22, b23, bl2⟩ := X27.out.facts4
      obtain ⟨b30, b31, b32, b33, bl3⟩ := X37.out.facts4
      cases q3 with
      | false =>
        go_wp2_with (fail)
        refine (T3.out _ O7.out).mono ?_
        rintro r w8 ⟨rfl, o8⟩
        have O8 := Lib.hid (O7.out.trans o8 (by simp))
        have X18 := Lib.hid (o8.blk X17.out (by simp))
        have X28 := Lib.hid (o8.blk X27.out (by simp))
        have X38 := Lib.hid (o8.blk X37.out (by simp))
        clear o8 
        clear b10 b11 b12 b13 bl1 b20 b21 b22 b23 bl2 b30 b31 b32 b33 bl3
        go_wp2_with (fail)
        go_ret
        exact ⟨rfl, O8.out⟩
      | true =>
        have HTR0 := Lib.hid (HTR.out (by first | rfl | trivial) (by first | rfl | trivial) (by first | rfl | trivial))
        clear HTR
        go_wp2_with (fail)
        have HX := Lib.hid (fun W (o : Only [] (w7).drew W) => O7.out.trans ((Only.refl [] w7).drew.trans o (by simp)) (by simp))
        clear b10 b11 b12 b13 bl1 b20 b21 b22 b23 bl2 b30 b31 b32 b33 bl3
        refine (wpIn_wide (n := 9)).1 ?_
        refine wpIn_region_relR 16 (Only []) (fr := ?frg1) (tl := ?tlg1) (fun iq v wv => match iq with
          | 0 => v = .int .i64 (-y)
          | 1 => v = .bool sm
          | 2 => v = .agg #[.int .i64 k1, .int .i64 n1, .string s1, .slice A1 l1.length cap1]
          | 3 => v = .agg #[.int .i64 k2, .int .i64 n2, .string s2, .slice A2 l2.length cap2]
          | 4 => v = .bool sm
          | 5 => v = .bool false
          | 6 => v = .bool false
          | 7 => v = .int .i64 (-y)
          | 8 => v = .bool sm
          | 9 => v = .agg #[.int .i64 k1, .int .i64 n1, .string s1, .slice A1 l1.length cap1]
          | 10 => v = strV ta
          | 11 => v = .agg #[.int .i64 k2, .int .i64 n2, .string s2, .slice A2 l2.length cap2]
          | 12 => v = strV tb
          | 13 => v = .bool sm
          | 14 => v = .bool false
          | 15 => v = .bool false
          | _ => True) (.inl rfl) (by kernel_rfl) (by kernel_rfl) (by kernel_rfl) (by kernel_rfl) (by kernel_rfl) (by kernel_rfl) (by decide) ?htlg1 ?hfrg1 (Only.refl _ _) (fun _ _ _ h k => h.trans k (fun _ hx => .inl hx)) ?stabg1 ?stepsg1 ?doneg1
        case htlg1 => simp only [List.drop_succ_cons, List.drop_zero]; rfl
        case hfrg1 => intro vals; simp only [putAll, dstAt, Act.put, List.getElem?_toArray, List.getElem?_cons_zero, List.getElem?_cons_succ, Option.bind_some, List.setIfInBounds_toArray, List.set_cons_zero, List.set_cons_succ]; rfl
        case stabg1 =>
          intro i v wa wb h
          try dsimp only
          split <;> first | exact id
        case stepsg1 =>
          refine ⟨?_, ?_, ?_, ?_, ?_, ?_, ?_, ?_, ?_, ?_, ?_, ?_, ?_, ?_, ?_, ?_, trivial⟩
          · intro vals wr hR hp K hK
            dsimp only at hK ⊢
            clear hp
            unfold RunsOp
            go_simp
            exact hK.out _ _ ⟨_, rfl, Only.refl _ _, rfl⟩
          · intro vals wr hR hp K hK
            dsimp only at hK ⊢
            obtain ⟨p0, -⟩ := hp
            replace p0 := p0 rfl
            dsimp only at p0
            rw [p0] at hK ⊢
            clear p0
            unfold RunsOp
            have hsm0 := HS0.out
            go_simp
            exact hK.out _ _ ⟨_, rfl, Only.refl _ _, rfl⟩
          · intro vals wr hR hp K hK
            dsimp only at hK ⊢
            clear hp
            unfold RunsOp
            have tg := hR.blk (Blk.drew X17.out) (by simp)
            obtain ⟨k0, k1, k2, k3, kl⟩ := tg.facts4
            clear tg
            go_simp
            exact hK.out _ _ ⟨_, rfl, Only.refl _ _, rfl⟩
          · intro vals wr hR hp K hK
            dsimp only at hK ⊢
            clear hp
            unfold RunsOp
            have tg := hR.blk (Blk.drew X27.out) (by simp)
            obtain ⟨k0, k1, k2, k3, kl⟩ := tg.facts4
            clear tg
            go_simp
            exact hK.out _ _ ⟨_, rfl, Only.refl _ _, rfl⟩
          · intro vals wr hR hp K hK
            dsimp only at hK ⊢
            obtain ⟨p2, p3, -⟩ := hp
            replace p2 := p2 rfl
            replace p3 := p3 rfl
            dsimp only at p2 p3
            rw [p2, p3] at hK ⊢
            clear p2 p3
            unfold RunsOp
            go_simp
            refine (DS.out _ (HX.out _ hR)).mono ?_
            rintro e w2 ⟨rfl, o2⟩
            exact hK.out _ _ ⟨_, rfl, o2, rfl⟩
          · intro vals wr hR hp K hK
            dsimp only at hK ⊢
            obtain ⟨p1, p4, -⟩ := hp
            replace p1 := p1 rfl
            replace p4 := p4 rfl
            dsimp only at p1 p4
            rw [p1, p4] at hK ⊢
            clear p1 p4
            unfold RunsOp
            go_simp
            exact hK.out _ _ ⟨_, rfl, Only.refl _ _, rfl⟩
          · intro vals wr hR hp K hK
            dsimp only at hK ⊢
            obtain ⟨p5, -, -⟩ := hp
            replace p5 := p5 rfl
            dsimp only at p5
            rw [p5] at hK ⊢
            clear p5
            unfold RunsOp
            go_simp
            exact hK.out _ _ ⟨_, rfl, Only.refl _ _, rfl⟩
          · intro vals wr hR hp K hK
            dsimp only at hK ⊢
            obtain ⟨p6, -⟩ := hp
            replace p6 := p6 rfl
            dsimp only at p6
            rw [p6] at hK ⊢
            clear p6
            unfold RunsOp
            go_simp
            exact hK.out _ _ ⟨_, rfl, Only.refl _ _, rfl⟩
          · intro vals wr hR hp K hK
            dsimp only at hK ⊢
            obtain ⟨p7, p6, -⟩ := hp
            replace p7 := p7 rfl
            replace p6 := p6 rfl
            dsimp only at p7 p6
            rw [p7, p6] at hK ⊢
            clear p7 p6
            unfold RunsOp
            have hsm0 := HS0.out
            go_simp
            exact hK.out _ _ ⟨_, rfl, Only.refl _ _, rfl⟩
          · intro vals wr hR hp K hK
            dsimp only at hK ⊢
            obtain ⟨p6, -⟩ := hp
            replace p6 := p6 rfl
            dsimp only at p6
            rw [p6] at hK ⊢
            clear p6
            unfold RunsOp
            have tg := hR.blk (Blk.drew X17.out) (by simp)
            obtain ⟨k0, k1, k2, k3, kl⟩ := tg.facts4
            clear tg
            go_simp
            exact hK.out _ _ ⟨_, rfl, Only.refl _ _, rfl⟩
          · intro vals wr hR hp K hK
            dsimp only at hK ⊢
            obtain ⟨p9, p6, -, -⟩ := hp
            replace p9 := p9 rfl
            replace p6 := p6 rfl
            dsimp only at p9 p6
            rw [p9, p6] at hK ⊢
            clear p9 p6
            unfold RunsOp
            go_simp
            refine (X1.out _ (HX.out _ hR)).mono ?_
            rintro e w2 ⟨rfl, o2⟩
            exact hK.out _ _ ⟨_, rfl, o2, rfl⟩
          · intro vals wr hR hp K hK
            dsimp only at hK ⊢
            obtain ⟨p6, -⟩ := hp
            replace p6 := p6 rfl
            dsimp only at p6
            rw [p6] at hK ⊢
            clear p6
            unfold RunsOp
            have tg := hR.blk (Blk.drew X27.out) (by simp)
            obtain ⟨k0, k1, k2, k3, kl⟩ := tg.facts4
            clear tg
            go_simp
            exact hK.out _ _ ⟨_, rfl, Only.refl _ _, rfl⟩
          · intro vals wr hR hp K hK
            dsimp only at hK ⊢
            obtain ⟨p11, -, p6, -⟩ := hp
            replace p11 := p11 rfl
            replace p6 := p6 rfl
            dsimp only at p11 p6
            rw [p11, p6] at hK ⊢
            clear p11 p6
            unfold RunsOp
            go_simp
            refine (X2.out _ (HX.out _ hR)).mono ?_
            rintro e w2 ⟨rfl, o2⟩
            exact hK.out _ _ ⟨_, rfl, o2, rfl⟩
          · intro vals wr hR hp K hK
            dsimp only at hK ⊢
            obtain ⟨p10, p12, p6, -⟩ := hp
            replace p10 := p10 rfl
            replace p12 := p12 rfl
            replace p6 := p6 rfl
            dsimp only at p10 p12 p6
            rw [p10, p12, p6] at hK ⊢
            clear p10 p12 p6
            unfold RunsOp
            unfold strV
            have hs9 : (ta == tb) = sm := by rw [Bool.eq_iff_iff, beq_iff_eq]; exact HTX0.out
            have hs8 : decide (ta = tb) = sm := by rw [Bool.eq_iff_iff, decide_eq_true_eq]; exact HTX0.out
            have hs6 : decide ((⟨ta.toArray⟩ : ByteArray) = ⟨tb.toArray⟩) = sm := by rw [Bool.eq_iff_iff, decide_eq_true_eq]; exact ⟨fun h => HTX0.out.1 (str_inj h), fun h => by rw [HTX0.out.2 h]⟩
            go_simp
            exact hK.out _ _ ⟨_, rfl, Only.refl _ _, rfl⟩
          · intro vals wr hR hp K hK
            dsimp only at hK ⊢
            obtain ⟨p8, p13, p6, -⟩ := hp
            replace p8 := p8 rfl
            replace p13 := p13 rfl
            replace p6 := p6 rfl
            dsimp only at p8 p13 p6
            rw [p8, p13, p6] at hK ⊢
            clear p8 p13 p6
            unfold RunsOp
            go_simp
            exact hK.out _ _ ⟨_, rfl, Only.refl _ _, rfl⟩
          · intro vals wr hR hp K hK
            dsimp only at hK ⊢
            obtain ⟨p6, p14, -⟩ := hp
            replace p6 := p6 rfl
            replace p14 := p14 rfl
            dsimp only at p6 p14
            rw [p6, p14] at hK ⊢
            clear p6 p14
            unfold RunsOp
            go_simp
            exact hK.out _ _ ⟨_, rfl, Only.refl _ _, rfl⟩
        case doneg1 =>
          intro vals wd hR hF
          have f0 : vals 0 = .int .i64 (-y) := hF 0 (by decide)
          have f1 : vals 1 = .bool sm := hF 1 (by decide)
          have f2 : vals 2 = .agg #[.int .i64 k1, .int .i64 n1, .string s1, .slice A1 l1.length cap1] := hF 2 (by decide)
          have f3 : vals 3 = .agg #[.int .i64 k2, .int .i64 n2, .string s2, .slice A2 l2.length cap2] := hF 3 (by decide)
          have f4 : (vals 4) = .bool sm := hF 4 (by decide)
          have f5 : vals 5 = .bool false := hF 5 (by decide)
          have f6 : vals 6 = .bool false := hF 6 (by decide)
          have f7 : vals 7 = .int .i64 (-y) := hF 7 (by decide)
          have f8 : vals 8 = .bool sm := hF 8 (by decide)
          have f9 : vals 9 = .agg #[.int .i64 k1, .int .i64 n1, .string s1, .slice A1 l1.length cap1] := hF 9 (by decide)
          have f10 : (vals 10) = strV ta := hF 10 (by decide)
          have f11 : vals 11 = .agg #[.int .i64 k2, .int .i64 n2, .string s2, .slice A2 l2.length cap2] := hF 11 (by decide)
          have f12 : (vals 12) = strV tb := hF 12 (by decide)
          have f13 : vals 13 = .bool sm := hF 13 (by decide)
          have f14 : vals 14 = .bool false := hF 14 (by decide)
          have f15 : vals 15 = .bool false := hF 15 (by decide)
          rw [f0, f1, f2, f3, f5, f6, f7, f8, f9, f11, f13, f14, f15]
          clear f0 f1 f2 f3 f5 f6 f7 f8 f9 f11 f13 f14 f15
          rw [f4, f10, f12]
          clear f4 f10 f12
          have O9 := Lib.hid (HX.out _ hR)
          have X39 := Lib.hid (hR.blk (Blk.drew X37.out) (by simp))
          have X29 := Lib.hid (hR.blk (Blk.drew X27.out) (by simp))
          have X19 := Lib.hid (hR.blk (Blk.drew X17.out) (by simp))
          clear hR hF
          gi_wp2_with (fail)
          obtain ⟨b10, b11, b12, b13, bl1⟩ := X19.out.facts4
          obtain ⟨b20, b21, b22, b23, bl2⟩ := X29.out.facts4
          obtain ⟨b30, b31, b32, b33, bl3⟩ := X39.out.facts4
          by_cases h1 : 0 < -y
          · have h1' : decide (0 < -y) = true := decide_eq_true h1
            have h1a : decide (y < 0) = true := decide_eq_true (by omega)
            go_wp2_with (fail)
            go_ret
            exact ⟨rfl, O9.out⟩
          · have h1' : decide (0 < -y) = false := decide_eq_false h1
            have h1a : decide (y < 0) = false := decide_eq_false (by omega)
            have h1b : ¬ y < 0 := by omega
            have H1 := Lib.hid h1
            clear h1
            go_wp2_with (fail)
            refine (D23.out _ O9.out).mono ?_
            rintro r w10 ⟨rfl, o10⟩
            have O10 := Lib.hid (O9.out.trans o10 (by simp))
            have X110 := Lib.hid (o10.blk X19.out (by simp))
            have X210 := Lib.hid (o10.blk X29.out (by simp))
            have X310 := Lib.hid (o10.blk X39.out (by simp))
            clear o10 
            clear b10 b11 b12 b13 bl1 b20 b21 b22 b23 bl2 b30 b31 b32 b33 bl3
            obtain ⟨b10, b11, b12, b13, bl1⟩ := X110.out.facts4
            obtain ⟨b20, b21, b22, b23, bl2⟩ := X210.out.facts4
            obtain ⟨b30, b31, b32, b33, bl3⟩ := X310.out.facts4
            by_cases h2 : 0 < u
            · have h2' : decide (0 < u) = true := decide_eq_true h2
              go_wp2_with (fail)
              go_ret
              exact ⟨rfl, O10.out⟩
            · have h2' : decide (0 < u) = false := decide_eq_false h2
              have H2 := Lib.hid h2
              clear h2
              go_wp2_with (fail)
              refine (D13.out _ O10.out).mono ?_
              rintro r w11 ⟨rfl, o11⟩
              have O11 := Lib.hid (O10.out.trans o11 (by simp))
              have X111 := Lib.hid (o11.blk X110.out (by simp))
              have X211 := Lib.hid (o11.blk X210.out (by simp))
              have X311 := Lib.hid (o11.blk X310.out (by simp))
              clear o11 
              clear b10 b11 b12 b13 bl1 b20 b21 b22 b23 bl2 b30 b31 b32 b33 bl3
              have h3 : decide (v ≤ 0) = true := decide_eq_true (HTR0.out (by have := H1.out; omega) (by have := H2.out; omega))
              go_wp2_with (fail)
              go_ret
              exact ⟨rfl, O11.out⟩
end Go.Proofs.YtgpljjejfebhoaaDoor
