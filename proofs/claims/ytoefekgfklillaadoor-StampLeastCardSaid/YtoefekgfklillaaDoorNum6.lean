/- The reference's made, Never: walked. -/
import Derived.Test.YtoefekgfklillaaDoorNum5
namespace Go.Proofs.YtoefekgfklillaaDoor
open Go.RowKit Go.Kx
set_option maxRecDepth 20000

theorem cmpN_gt {a b : Nat} : decide (0 < cmpN a b) = decide (b < a) := by
  unfold cmpN
  by_cases h : a < b
  · rw [if_pos h]; simp; omega
  · rw [if_neg h]
    by_cases h2 : a = b
    · rw [if_pos h2]; simp; omega
    · rw [if_neg h2]; simp; omega

set_option maxHeartbeats 4000000 in
theorem made_any {n d : Nat} {w : World} {x y : Value} (hx : Nm w x n) (hy : Nm w y d) (hn : (toD n).length ≤ 100) (hd : (toD d).length ≤ 100) (h0 : 0 < d) :
    Calls Tryd.prog 50 #[x, y] w fun e w' => e = .returned (.tuple #[.agg #[.int .i64 (redT n d).1.1, .int .i64 (redT n d).1.2], .int .i64 (redT n d).2]) ∧ Only [] w w' := by
  have hg0 : 0 < Nat.gcd n d := Nat.gcd_pos_of_pos_right _ h0
  have hgl : (toD (Nat.gcd n d)).length ≤ 100 := Nat.le_trans (toD_len_mono (Nat.gcd_le_right _ h0)) hd
  have hal : (toD (n / Nat.gcd n d)).length ≤ 100 := Nat.le_trans (toD_len_mono (Nat.div_le_self _ _)) hn
  have hbl : (toD (d / Nat.gcd n d)).length ≤ 100 := Nat.le_trans (toD_len_mono (Nat.div_le_self _ _)) hd
  have hml : (toD 9223372036854775807).length ≤ 5 := toD_len_le (by omega)
  have HR := Lib.hid (show redT n d = fitT (n / Nat.gcd n d) (d / Nat.gcd n d) from rfl)
  have hgc := fun W (u v : Value) (h1 : Nm W u n) (h2 : Nm W v d) => gcdn_any h1 h2 hn hd
  have HX := Lib.hid hx
  have HY := Lib.hid hy
  generalize Nat.gcd n d = g at *
  obtain ⟨a, ha⟩ : ∃ a, a = n / g := ⟨_, rfl⟩
  obtain ⟨b, hb⟩ : ∃ b, b = d / g := ⟨_, rfl⟩
  have HGC := Lib.hid hgc
  have HA := Lib.hid (And.intro ha hb)
  rw [← ha] at hal
  rw [← hb] at hbl
  have hres : redT n d = fitT a b := by rw [HR.out, ha, hb]
  have HRES := Lib.hid hres
  obtain ⟨r1, r2, r3, hr⟩ : ∃ r1 r2 r3 : Int, fitT a b = ((r1, r2), r3) := ⟨_, _, _, rfl⟩
  rw [hres, hr]
  simp only
  have HFR := Lib.hid hr
  clear hx hy hgc ha hb hres hr
  have T0 := Lib.hid (Blk.new w 23 #[.int .i64 0, .int .i64 0])
  go_enter Tryd.func50, Tryd.ntmps50
  go_wp2_with (fail)
  refine (HGC.out _ _ _ HX.out.alloc_ HY.out.alloc_).mono ?_
  rintro e w1 ⟨v1, rfl, hv1, o1⟩
  have V1 := Lib.hid hv1
  have T1 := Lib.hid (o1.blk T0.out (by simp))
  have X1 := Lib.hid (HX.out.alloc_.only o1)
  have Y1 := Lib.hid (HY.out.alloc_.only o1)
  have O1 := Lib.hid (((Only.refl [] w).alloc (.cells #[.int .i64 0, .int .i64 0] 23)).trans o1 (by simp))
  clear hv1 o1
  go_wp2_with (fail)
  refine (divn_any X1.out V1.out hn hgl hg0).mono ?_
  rintro e w2 ⟨q, r, rfl, hq, hr, o2⟩
  have Q2 := Lib.hid hq
  have V2 := Lib.hid (V1.out.only o2)
  have T2 := Lib.hid (o2.blk T1.out (by simp))
  have Y2 := Lib.hid (Y1.out.only o2)
  have O2 := Lib.hid (O1.out.trans o2 (by simp))
  clear hq hr o2
  go_wp2_with (fail)
  refine (divn_any Y2.out V2.out hd hgl hg0).mono ?_
  rintro e w3 ⟨q', r', rfl, hq, hr, o3⟩
  have A3 := Lib.hid (show Nm w3 q a by rw [HA.out.1]; exact Q2.out.only o3)
  have B3 := Lib.hid (show Nm w3 q' b by rw [HA.out.2]; exact hq)
  have T3 := Lib.hid (o3.blk T2.out (by simp))
  have O3 := Lib.hid (O2.out.trans o3 (by simp))
  clear hq hr o3 Q2 V2 T2 Y2 O2 T1 X1 Y1 O1 V1
  go_wp2_with (fail)
  refine (most_any _).mono ?_
  rintro e w4 ⟨vm, rfl, hvm, o4⟩
  have M4 := Lib.hid hvm
  have A4 := Lib.hid (A3.out.only o4)
  have B4 := Lib.hid (B3.out.only o4)
  have T4 := Lib.hid (o4.blk T3.out (by simp))
  have O4 := Lib.hid (O3.out.trans o4 (by simp))
  clear hvm o4 A3 B3 T3 O3
  go_wp2_with (fail)
  refine (cmpn_any A4.out M4.out (by omega) (by omega)).mono ?_
  rintro e w5 ⟨rfl, o5⟩
  have A5 := Lib.hid (A4.out.only o5)
  have B5 := Lib.hid (B4.out.only o5)
  have T5 := Lib.hid (o5.blk T4.out (by simp))
  have O5 := Lib.hid (O4.out.trans o5 (by simp))
  clear o5 A4 B4 T4 O4 M4
  have hcm := cmpN_gt (a := a) (b := 9223372036854775807)
  by_cases ca : 9223372036854775807 < a
  · rw [decide_eq_true ca] at hcm
    obtain ⟨rfl, rfl, rfl⟩ : r1 = 0 ∧ r2 = 0 ∧ r3 = 2 := by
      have := HFR.out
      unfold fitT mostI at this
      rw [if_pos (.inl ca)] at this
      simp at this
      omega
    obtain ⟨t0, t1, tl⟩ := T5.out.facts2
    have f0 := T5.out.frozen 0
    have f1 := T5.out.frozen 1
    go_wp2_with (fail)
    exact bodyPost_ret (v := .tuple #[.agg #[.int .i64 0, .int .i64 0], .int .i64 2]) (by simp [results, Tryd.results50, go_sem, t0, t1]) rfl ⟨rfl, only_two O5.out (by simp) (by simp) _ _⟩
  · rw [decide_eq_false ca] at hcm
    go_wp2_with (fail)
    refine (most_any _).mono ?_
    rintro e w6 ⟨vm, rfl, hvm, o6⟩
    have M6 := Lib.hid hvm
    have A6 := Lib.hid (A5.out.only o6)
    have B6 := Lib.hid (B5.out.only o6)
    have T6 := Lib.hid (o6.blk T5.out (by simp))
    have O6 := Lib.hid (O5.out.trans o6 (by simp))
    clear hvm o6 A5 B5 T5 O5
    go_wp2_with (fail)
    refine (cmpn_any B6.out M6.out (by omega) (by omega)).mono ?_
    rintro e w7 ⟨rfl, o7⟩
    have A7 := Lib.hid (A6.out.only o7)
    have B7 := Lib.hid (B6.out.only o7)
    have T7 := Lib.hid (o7.blk T6.out (by simp))
    have O7 := Lib.hid (O6.out.trans o7 (by simp))
    clear o7 A6 B6 T6 O6 M6 hcm
    have hcm := cmpN_gt (a := b) (b := 9223372036854775807)
    by_cases cb : 9223372036854775807 < b
    · rw [decide_eq_true cb] at hcm
      obtain ⟨rfl, rfl, rfl⟩ : r1 = 0 ∧ r2 = 0 ∧ r3 = 2 := by
        have := HFR.out
        unfold fitT mostI at this
        rw [if_pos (.inr cb)] at this
        simp at this
        omega
      obtain ⟨t0, t1, tl⟩ := T7.out.facts2
      have f0 := T7.out.frozen 0
      have f1 := T7.out.frozen 1
      go_wp2_with (fail)
      exact bodyPost_ret (v := .tuple #[.agg #[.int .i64 0, .int .i64 0], .int .i64 2]) (by simp [results, Tryd.results50, go_sem, t0, t1]) rfl ⟨rfl, only_two O7.out (by simp) (by simp) _ _⟩
    · rw [decide_eq_false cb] at hcm
      obtain ⟨rfl, rfl, rfl⟩ : r1 = (a : Int) ∧ r2 = (b : Int) ∧ r3 = 0 := by
        have := HFR.out
        unfold fitT mostI at this
        rw [if_neg (by omega)] at this
        simp at this
        omega
      go_wp2_with (fail)
      refine (intn_any A7.out (by omega)).mono ?_
      rintro e w8 ⟨rfl, o8⟩
      have B8 := Lib.hid (B7.out.only o8)
      have T8 := Lib.hid (o8.blk T7.out (by simp))
      have O8 := Lib.hid (O7.out.trans o8 (by simp))
      clear o8 A7 B7 T7 O7
      go_wp2_with (fail)
      refine (intn_any B8.out (by omega)).mono ?_
      rintro e w9 ⟨rfl, o9⟩
      have t9 := o9.blk T8.out (by simp)
      have O9 := Lib.hid (O8.out.trans o9 (by simp))
      obtain ⟨t0, t1, tl⟩ := t9.facts2
      have f0 := t9.frozen 0
      have f1 := t9.frozen 1
      clear o9 B8 T8 O8 t9
      go_wp2_with (fail)
      exact bodyPost_ret (v := .tuple #[.agg #[.int .i64 a, .int .i64 b], .int .i64 0]) (by simp [results, Tryd.results50, go_sem, t0, t1]) rfl ⟨rfl, only_two O9.out (by simp) (by simp) _ _⟩

theorem refnever_any (a b : Int) (w : World) : Calls Tryd.prog 32 #[.agg #[.int .i64 a, .int .i64 b]] w fun e w' => e = .returned (.bool (decide (a = 1) && decide (b = 0))) ∧ Only [] w w' := by
  by_cases h1 : a = 1
  · subst h1
    by_cases h2 : b = 0
    · subst h2
      go_enter Tryd.func32, Tryd.ntmps32
      go_wp2_with (fail)
      go_ret
      exact ⟨rfl, (Only.refl [] w).alloc _⟩
    · have h2' : (b == 0) = false := by simpa using h2
      have e : decide (b = 0) = false := by simpa using h2
      rw [e]
      clear h2 e
      go_enter Tryd.func32, Tryd.ntmps32
      go_wp2_with (fail)
      go_ret
      exact ⟨rfl, (Only.refl [] w).alloc _⟩
  · have h1' : (a == 1) = false := by simpa using h1
    have e : decide (a = 1) = false := by simpa using h1
    rw [e, Bool.false_and]
    clear h1 e
    go_enter Tryd.func32, Tryd.ntmps32
    go_wp2_with (fail)
    go_ret
    exact ⟨rfl, (Only.refl [] w).alloc _⟩
end Go.Proofs.YtoefekgfklillaaDoor
