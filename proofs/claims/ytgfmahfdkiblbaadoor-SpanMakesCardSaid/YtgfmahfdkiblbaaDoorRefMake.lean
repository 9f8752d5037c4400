/- The reference's Make, walked. -/
import Derived.Test.YtgfmahfdkiblbaaDoorNum6
namespace Go.Proofs.YtgfmahfdkiblbaaDoor
open Go.RowKit Go.Kx
set_option maxRecDepth 20000

def makeT (n d : Int) : Te := if d = 0 then ((0, 0), 3) else if n ≠ 0 ∧ (decide (n < 0) ≠ decide (d < 0)) then ((0, 0), 4) else redT n.natAbs d.natAbs
theorem makeV_eq (n d : Int) : makeV n d = .tuple #[.agg #[.int .i64 (makeT n d).1.1, .int .i64 (makeT n d).1.2], .int .i64 (makeT n d).2] := by
  unfold makeV makeT
  split
  · rfl
  · split
    · rfl
    · exact redV_eq _ _
theorem toD_len_i64 {n : Int} (h : I64 n) : (toD n.natAbs).length ≤ 5 := by
  unfold I64 at h
  exact toD_len_le (by omega)

theorem refmake_z (n : Int)  (w : World) :
    Calls Tryd.prog 19 #[.int .i64 n, .int .i64 0] w fun e w' => e = .returned (.tuple #[.agg #[.int .i64 0, .int .i64 0], .int .i64 3]) ∧ Only [] w w' := by
  have h9 : True := trivial
  go_enter Tryd.func19, Tryd.ntmps19
  go_wp2_with (fail)
  exact bodyPost_ret (v := .tuple #[.agg #[.int .i64 0, .int .i64 0], .int .i64 3]) (by simp [results, Tryd.results19, go_sem]) rfl ⟨rfl, (Only.refl [] w).alloc _⟩

theorem refmake_pm (n d : Int) (hn : 0 < n) (hd : d < 0) (w : World) :
    Calls Tryd.prog 19 #[.int .i64 n, .int .i64 d] w fun e w' => e = .returned (.tuple #[.agg #[.int .i64 0, .int .i64 0], .int .i64 4]) ∧ Only [] w w' := by
  have h9 : True := trivial
  have sn1 : decide (0 < n) = true := by simp; omega
  have sn2 : decide (n < 0) = false := by simp; omega
  have sn3 : (n == 0) = false := by simp; omega
  have sd1 : decide (0 < d) = false := by simp; omega
  have sd2 : decide (d < 0) = true := by simp; omega
  have sd3 : (d == 0) = false := by simp; omega
  clear hn
  clear hd
  go_enter Tryd.func19, Tryd.ntmps19
  go_wp2_with (fail)
  exact bodyPost_ret (v := .tuple #[.agg #[.int .i64 0, .int .i64 0], .int .i64 4]) (by simp [results, Tryd.results19, go_sem]) rfl ⟨rfl, (Only.refl [] w).alloc _⟩

theorem refmake_mp (n d : Int) (hn : n < 0) (hd : 0 < d) (w : World) :
    Calls Tryd.prog 19 #[.int .i64 n, .int .i64 d] w fun e w' => e = .returned (.tuple #[.agg #[.int .i64 0, .int .i64 0], .int .i64 4]) ∧ Only [] w w' := by
  have h9 : True := trivial
  have sn1 : decide (0 < n) = false := by simp; omega
  have sn2 : decide (n < 0) = true := by simp; omega
  have sn3 : (n == 0) = false := by simp; omega
  have sd1 : decide (0 < d) = true := by simp; omega
  have sd2 : decide (d < 0) = false := by simp; omega
  have sd3 : (d == 0) = false := by simp; omega
  clear hn
  clear hd
  go_enter Tryd.func19, Tryd.ntmps19
  go_wp2_with (fail)
  exact bodyPost_ret (v := .tuple #[.agg #[.int .i64 0, .int .i64 0], .int .i64 4]) (by simp [results, Tryd.results19, go_sem]) rfl ⟨rfl, (Only.refl [] w).alloc _⟩

set_option maxHeartbeats 1000000 in
theorem refmake_pp (n d : Int) (hn : 0 < n) (hd : 0 < d) (hi : I64 n) (hj : I64 d) (w : World) :
    Calls Tryd.prog 19 #[.int .i64 n, .int .i64 d] w fun e w' => e = .returned (.tuple #[.agg #[.int .i64 (redT (Int.natAbs n) d.natAbs).1.1, .int .i64 (redT (Int.natAbs n) d.natAbs).1.2], .int .i64 (redT (Int.natAbs n) d.natAbs).2]) ∧ Only [] w w' := by
  have h9 : True := trivial
  have sn1 : decide (0 < n) = true := by simp; omega
  have sn2 : decide (n < 0) = false := by simp; omega
  have sn3 : (n == 0) = false := by simp; omega
  have sd1 : decide (0 < d) = true := by simp; omega
  have sd2 : decide (d < 0) = false := by simp; omega
  have sd3 : (d == 0) = false := by simp; omega
  have l1 := toD_len_i64 hi
  have l2 := toD_len_i64 hj
  have hd0 : 0 < d.natAbs := by omega
  clear hn
  clear hd
  obtain ⟨r1, r2, r3, hr⟩ : ∃ r1 r2 r3 : Int, redT (Int.natAbs n) d.natAbs = ((r1, r2), r3) := ⟨_, _, _, rfl⟩
  rw [hr]
  simp only
  have HR := Lib.hid hr
  clear hr
  have T0 := Lib.hid (Blk.new w 23 #[.int .i64 0, .int .i64 0])
  go_enter Tryd.func19, Tryd.ntmps19
  go_wp2_with (fail)
  refine (plain_any n hi _).mono ?_
  rintro e w1 ⟨v1, rfl, hv1, o1⟩
  have V1 := Lib.hid hv1
  have T1 := Lib.hid (o1.blk T0.out (by simp))
  have O1 := Lib.hid (((Only.refl [] w).alloc (.cells #[.int .i64 0, .int .i64 0] 23)).trans o1 (by simp))
  clear hv1 o1
  go_wp2_with (fail)
  refine (plain_any d hj _).mono ?_
  rintro e w2 ⟨v2, rfl, hv2, o2⟩
  have V1b := Lib.hid (V1.out.only o2)
  have V2 := Lib.hid hv2
  have T2 := Lib.hid (o2.blk T1.out (by simp))
  have O2 := Lib.hid (O1.out.trans o2 (by simp))
  clear hv2 o2
  go_wp2_with (fail)
  refine (made_any V1b.out V2.out (by omega) (by omega) hd0).mono ?_
  rintro e w3 ⟨rfl, o3⟩
  have t3 := o3.blk T2.out (by simp)
  have O3 := Lib.hid (O2.out.trans o3 (by simp))
  obtain ⟨t0, t1, tl⟩ := t3.facts2
  have f0 := t3.frozen 0
  have f1 := t3.frozen 1
  clear t3 o3
  rw [HR.out]
  go_wp2_with (fail)
  exact bodyPost_ret (v := .tuple #[.agg #[.int .i64 r1, .int .i64 r2], .int .i64 r3]) (by simp [results, Tryd.results19, go_sem, t0, t1]) rfl ⟨rfl, only_two O3.out (by simp) (by simp) _ _⟩

set_option maxHeartbeats 1000000 in
theorem refmake_mm (n d : Int) (hn : n < 0) (hd : d < 0) (hi : I64 n) (hj : I64 d) (w : World) :
    Calls Tryd.prog 19 #[.int .i64 n, .int .i64 d] w fun e w' => e = .returned (.tuple #[.agg #[.int .i64 (redT (Int.natAbs n) d.natAbs).1.1, .int .i64 (redT (Int.natAbs n) d.natAbs).1.2], .int .i64 (redT (Int.natAbs n) d.natAbs).2]) ∧ Only [] w w' := by
  have h9 : True := trivial
  have sn1 : decide (0 < n) = false := by simp; omega
  have sn2 : decide (n < 0) = true := by simp; omega
  have sn3 : (n == 0) = false := by simp; omega
  have sd1 : decide (0 < d) = false := by simp; omega
  have sd2 : decide (d < 0) = true := by simp; omega
  have sd3 : (d == 0) = false := by simp; omega
  have l1 := toD_len_i64 hi
  have l2 := toD_len_i64 hj
  have hd0 : 0 < d.natAbs := by omega
  clear hn
  clear hd
  obtain ⟨r1, r2, r3, hr⟩ : ∃ r1 r2 r3 : Int, redT (Int.natAbs n) d.natAbs = ((r1, r2), r3) := ⟨_, _, _, rfl⟩
  rw [hr]
  simp only
  have HR := Lib.hid hr
  clear hr
  have T0 := Lib.hid (Blk.new w 23 #[.int .i64 0, .int .i64 0])
  go_enter Tryd.func19, Tryd.ntmps19
  go_wp2_with (fail)
  refine (plain_any n hi _).mono ?_
  rintro e w1 ⟨v1, rfl, hv1, o1⟩
  have V1 := Lib.hid hv1
  have T1 := Lib.hid (o1.blk T0.out (by simp))
  have O1 := Lib.hid (((Only.refl [] w).alloc (.cells #[.int .i64 0, .int .i64 0] 23)).trans o1 (by simp))
  clear hv1 o1
  go_wp2_with (fail)
  refine (plain_any d hj _).mono ?_
  rintro e w2 ⟨v2, rfl, hv2, o2⟩
  have V1b := Lib.hid (V1.out.only o2)
  have V2 := Lib.hid hv2
  have T2 := Lib.hid (o2.blk T1.out (by simp))
  have O2 := Lib.hid (O1.out.trans o2 (by simp))
  clear hv2 o2
  go_wp2_with (fail)
  refine (made_any V1b.out V2.out (by omega) (by omega) hd0).mono ?_
  rintro e w3 ⟨rfl, o3⟩
  have t3 := o3.blk T2.out (by simp)
  have O3 := Lib.hid (O2.out.trans o3 (by simp))
  obtain ⟨t0, t1, tl⟩ := t3.facts2
  have f0 := t3.frozen 0
  have f1 := t3.frozen 1
  clear t3 o3
  rw [HR.out]
  go_wp2_with (fail)
  exact bodyPost_ret (v := .tuple #[.agg #[.int .i64 r1, .int .i64 r2], .int .i64 r3]) (by simp [results, Tryd.results19, go_sem, t0, t1]) rfl ⟨rfl, only_two O3.out (by simp) (by simp) _ _⟩

set_option maxHeartbeats 1000000 in
theorem refmake_zp (d : Int)  (hd : 0 < d)  (hj : I64 d) (w : World) :
    Calls Tryd.prog 19 #[.int .i64 0, .int .i64 d] w fun e w' => e = .returned (.tuple #[.agg #[.int .i64 (redT (Int.natAbs 0) d.natAbs).1.1, .int .i64 (redT (Int.natAbs 0) d.natAbs).1.2], .int .i64 (redT (Int.natAbs 0) d.natAbs).2]) ∧ Only [] w w' := by
  have hi : I64 0 := i0
  have sd1 : decide (0 < d) = true := by simp; omega
  have sd2 : decide (d < 0) = false := by simp; omega
  have sd3 : (d == 0) = false := by simp; omega
  have l1 := toD_len_i64 hi
  have l2 := toD_len_i64 hj
  have hd0 : 0 < d.natAbs := by omega
  
  clear hd
  obtain ⟨r1, r2, r3, hr⟩ : ∃ r1 r2 r3 : Int, redT (Int.natAbs 0) d.natAbs = ((r1, r2), r3) := ⟨_, _, _, rfl⟩
  rw [hr]
  simp only
  have HR := Lib.hid hr
  clear hr
  have T0 := Lib.hid (Blk.new w 23 #[.int .i64 0, .int .i64 0])
  go_enter Tryd.func19, Tryd.ntmps19
  go_wp2_with (fail)
  refine (plain_any 0 hi _).mono ?_
  rintro e w1 ⟨v1, rfl, hv1, o1⟩
  have V1 := Lib.hid hv1
  have T1 := Lib.hid (o1.blk T0.out (by simp))
  have O1 := Lib.hid (((Only.refl [] w).alloc (.cells #[.int .i64 0, .int .i64 0] 23)).trans o1 (by simp))
  clear hv1 o1
  go_wp2_with (fail)
  refine (plain_any d hj _).mono ?_
  rintro e w2 ⟨v2, rfl, hv2, o2⟩
  have V1b := Lib.hid (V1.out.only o2)
  have V2 := Lib.hid hv2
  have T2 := Lib.hid (o2.blk T1.out (by simp))
  have O2 := Lib.hid (O1.out.trans o2 (by simp))
  clear hv2 o2
  go_wp2_with (fail)
  refine (made_any V1b.out V2.out (by omega) (by omega) hd0).mono ?_
  rintro e w3 ⟨rfl, o3⟩
  have t3 := o3.blk T2.out (by simp)
  have O3 := Lib.hid (O2.out.trans o3 (by simp))
  obtain ⟨t0, t1, tl⟩ := t3.facts2
  have f0 := t3.frozen 0
  have f1 := t3.frozen 1
  clear t3 o3
  rw [HR.out]
  go_wp2_with (fail)
  exact bodyPost_ret (v := .tuple #[.agg #[.int .i64 r1, .int .i64 r2], .int .i64 r3]) (by simp [results, Tryd.results19, go_sem, t0, t1]) rfl ⟨rfl, only_two O3.out (by simp) (by simp) _ _⟩

set_option maxHeartbeats 1000000 in
theorem refmake_zm (d : Int)  (hd : d < 0)  (hj : I64 d) (w : World) :
    Calls Tryd.prog 19 #[.int .i64 0, .int .i64 d] w fun e w' => e = .returned (.tuple #[.agg #[.int .i64 (redT (Int.natAbs 0) d.natAbs).1.1, .int .i64 (redT (Int.natAbs 0) d.natAbs).1.2], .int .i64 (redT (Int.natAbs 0) d.natAbs).2]) ∧ Only [] w w' := by
  have hi : I64 0 := i0
  have sd1 : decide (0 < d) = false := by simp; omega
  have sd2 : decide (d < 0) = true := by simp; omega
  have sd3 : (d == 0) = false := by simp; omega
  have l1 := toD_len_i64 hi
  have l2 := toD_len_i64 hj
  have hd0 : 0 < d.natAbs := by omega
  
  clear hd
  obtain ⟨r1, r2, r3, hr⟩ : ∃ r1 r2 r3 : Int, redT (Int.natAbs 0) d.natAbs = ((r1, r2), r3) := ⟨_, _, _, rfl⟩
  rw [hr]
  simp only
  have HR := Lib.hid hr
  clear hr
  have T0 := Lib.hid (Blk.new w 23 #[.int .i64 0, .int .i64 0])
  go_enter Tryd.func19, Tryd.ntmps19
  go_wp2_with (fail)
  refine (plain_any 0 hi _).mono ?_
  rintro e w1 ⟨v1, rfl, hv1, o1⟩
  have V1 := Lib.hid hv1
  have T1 := Lib.hid (o1.blk T0.out (by simp))
  have O1 := Lib.hid (((Only.refl [] w).alloc (.cells #[.int .i64 0, .int .i64 0] 23)).trans o1 (by simp))
  clear hv1 o1
  go_wp2_with (fail)
  refine (plain_any d hj _).mono ?_
  rintro e w2 ⟨v2, rfl, hv2, o2⟩
  have V1b := Lib.hid (V1.out.only o2)
  have V2 := Lib.hid hv2
  have T2 := Lib.hid (o2.blk T1.out (by simp))
  have O2 := Lib.hid (O1.out.trans o2 (by simp))
  clear hv2 o2
  go_wp2_with (fail)
  refine (made_any V1b.out V2.out (by omega) (by omega) hd0).mono ?_
  rintro e w3 ⟨rfl, o3⟩
  have t3 := o3.blk T2.out (by simp)
  have O3 := Lib.hid (O2.out.trans o3 (by simp))
  obtain ⟨t0, t1, tl⟩ := t3.facts2
  have f0 := t3.frozen 0
  have f1 := t3.frozen 1
  clear t3 o3
  rw [HR.out]
  go_wp2_with (fail)
  exact bodyPost_ret (v := .tuple #[.agg #[.int .i64 r1, .int .i64 r2], .int .i64 r3]) (by simp [results, Tryd.results19, go_sem, t0, t1]) rfl ⟨rfl, only_two O3.out (by simp) (by simp) _ _⟩

theorem refmake_any (n d : Int) (hi : I64 n) (hj : I64 d) (w : World) :
    Calls Tryd.prog 19 #[.int .i64 n, .int .i64 d] w fun e w' => e = .returned (.tuple #[.agg #[.int .i64 (makeT n d).1.1, .int .i64 (makeT n d).1.2], .int .i64 (makeT n d).2]) ∧ Only [] w w' := by
  rcases Int.lt_trichotomy d 0 with hd | hd | hd
  · rcases Int.lt_trichotomy n 0 with hn | hn | hn
    · have e : makeT n d = redT n.natAbs d.natAbs := by unfold makeT; rw [if_neg (by omega), if_neg (fun h => h.2 (by simp [hn, hd]))]
      rw [e]; exact refmake_mm n d hn hd hi hj w
    · subst hn
      have e : makeT 0 d = redT (Int.natAbs 0) d.natAbs := by unfold makeT; rw [if_neg (by omega), if_neg (fun h => h.1 rfl)]
      rw [e]; exact refmake_zm d hd hj w
    · have e : makeT n d = ((0, 0), 4) := by unfold makeT; rw [if_neg (by omega), if_pos ⟨by omega, by simp [hd]; omega⟩]
      rw [e]; exact refmake_pm n d hn hd w
  · subst hd
    have e : makeT n 0 = ((0, 0), 3) := by unfold makeT; rw [if_pos rfl]
    rw [e]; exact refmake_z n w
  · rcases Int.lt_trichotomy n 0 with hn | hn | hn
    · have e : makeT n d = ((0, 0), 4) := by unfold makeT; rw [if_neg (by omega), if_pos ⟨by omega, by simp [hn]; omega⟩]
      rw [e]; exact refmake_mp n d hn hd w
    · subst hn
      have e : makeT 0 d = redT (Int.natAbs 0) d.natAbs := by unfold makeT; rw [if_neg (by omega), if_neg (fun h => h.1 rfl)]
      rw [e]; exact refmake_zp d hd hj w
    · have e : makeT n d = redT n.natAbs d.natAbs := by unfold makeT; rw [if_neg (by omega), if_neg (fun h => h.2 (by simp; omega))]
      rw [e]; exact refmake_pp n d hn hd hi hj w
end Go.Proofs.YtgfmahfdkiblbaaDoor
