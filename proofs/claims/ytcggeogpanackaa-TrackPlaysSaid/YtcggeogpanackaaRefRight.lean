/- The reference's Right, walked. -/
import Derived.Test.YtcggeogpanackaaNum6
import Derived.Test.YtcggeogpanackaaFacts
import Derived.Test.YtcggeogpanackaaFacts
namespace Go.Proofs.Ytcggeogpanackaa
open Go.RowKit Go.Kx
set_option maxRecDepth 20000

theorem refright_never (w : World) : Calls Try.prog 30 #[.agg #[.int .i64 1, .int .i64 0]] w fun e w' => e = .returned (.bool true) ∧ Only [] w w' := by
  have T0 := Lib.hid (Blk.new w 24 #[.int .i64 1, .int .i64 0])
  go_enter Try.func30, Try.ntmps30
  go_wp2_with (fail)
  refine (refnever_any _ _ _).mono ?_
  rintro e w1 ⟨rfl, o1⟩
  have O1 := Lib.hid (((Only.refl [] w).alloc (.cells #[.int .i64 1, .int .i64 0] 24)).trans o1 (by simp))
  clear o1
  go_wp2_with (fail)
  go_ret
  exact ⟨rfl, O1.out⟩

theorem refright_low (a b : Int) (hb : ¬ 0 < b) (hn : (decide (a = 1) && decide (b = 0)) = false) (w : World) :
    Calls Try.prog 30 #[.agg #[.int .i64 a, .int .i64 b]] w fun e w' => e = .returned (.bool false) ∧ Only [] w w' := by
  have T0 := Lib.hid (Blk.new w 24 #[.int .i64 a, .int .i64 b])
  have hb' : decide (0 < b) = false := by simpa using hb
  have HN := Lib.hid hn
  clear hb hn
  go_enter Try.func30, Try.ntmps30
  go_wp2_with (fail)
  refine (refnever_any _ _ _).mono ?_
  rintro e w1 ⟨rfl, o1⟩
  rw [HN.out]
  have t1 := o1.blk T0.out (by simp)
  obtain ⟨c0, c1, cl⟩ := t1.facts2
  have O1 := Lib.hid (((Only.refl [] w).alloc (.cells #[.int .i64 a, .int .i64 b] 24)).trans o1 (by simp))
  clear o1 t1
  go_wp2_with (fail)
  go_quiet (fail)
  go_wp2_with (fail)
  go_ret
  exact ⟨rfl, O1.out.drewN _⟩
theorem refright_neg (a b : Int) (hb : 0 < b) (ha : ¬ 0 ≤ a) (w : World) :
    Calls Try.prog 30 #[.agg #[.int .i64 a, .int .i64 b]] w fun e w' => e = .returned (.bool false) ∧ Only [] w w' := by
  have T0 := Lib.hid (Blk.new w 24 #[.int .i64 a, .int .i64 b])
  have hn : (decide (a = 1) && decide (b = 0)) = false := by simp; omega
  have hb' : decide (0 < b) = true := by simpa using hb
  have ha' : decide (0 ≤ a) = false := by simpa using ha
  have HN := Lib.hid hn
  clear hb hn ha
  go_enter Try.func30, Try.ntmps30
  go_wp2_with (fail)
  refine (refnever_any _ _ _).mono ?_
  rintro e w1 ⟨rfl, o1⟩
  rw [HN.out]
  have t1 := o1.blk T0.out (by simp)
  obtain ⟨c0, c1, cl⟩ := t1.facts2
  have O1 := Lib.hid (((Only.refl [] w).alloc (.cells #[.int .i64 a, .int .i64 b] 24)).trans o1 (by simp))
  clear o1 t1
  go_wp2_with (fail)
  go_quiet (fail)
  go_wp2_with (fail)
  go_ret
  exact ⟨rfl, O1.out.drewN _⟩
theorem cmpN_eq0 {a b : Nat} : (cmpN a b == 0) = decide (a = b) := by
  unfold cmpN
  by_cases h : a < b
  · rw [if_pos h]; rw [decide_eq_false (by omega)]; rfl
  · rw [if_neg h]
    by_cases h2 : a = b
    · rw [if_pos h2, decide_eq_true h2]; rfl
    · rw [if_neg h2, decide_eq_false h2]; rfl

theorem refright_pos (n d : Nat) (hn : n ≤ 9223372036854775807) (hd : d ≤ 9223372036854775807) (h0 : 0 < d) (w0 : World) :
    Calls Try.prog 30 #[.agg #[.int .i64 n, .int .i64 d]] w0 fun e w' => e = .returned (.bool (decide (Nat.gcd n d = 1))) ∧ Only [] w0 w' := by
  have T0 := Lib.hid (Blk.new w0 24 #[.int .i64 n, .int .i64 d])
  have hnv : (decide ((n : Int) = 1) && decide ((d : Int) = 0)) = false := by simp; omega
  have hb' : decide ((0 : Int) < (d : Int)) = true := by simp; omega
  have ha' : decide ((0 : Int) ≤ (n : Int)) = true := by simp
  have ln : (toD n).length ≤ 5 := toD_len_le (by omega)
  have ld : (toD d).length ≤ 5 := toD_len_le (by omega)
  have lg : (toD (Nat.gcd n d)).length ≤ 5 := Nat.le_trans (toD_len_mono (Nat.gcd_le_right _ h0)) ld
  have l1 : (toD 1).length ≤ 5 := toD_len_le (by omega)
  have HC := Lib.hid (cmpN_eq0 (a := Nat.gcd n d) (b := 1))
  have HN := Lib.hid hnv
  clear hnv
  go_enter Try.func30, Try.ntmps30
  go_wp2_with (fail)
  refine (refnever_any _ _ _).mono ?_
  rintro e w1 ⟨rfl, o1⟩
  rw [HN.out]
  have T1 := Lib.hid (o1.blk T0.out (by simp))
  have O1 := Lib.hid (((Only.refl [] w0).alloc (.cells #[.int .i64 n, .int .i64 d] 24)).trans o1 (by simp))
  clear o1
  go_wp2_with (fail)
  refine wp_region_facts 20 [] (fr := ?fr) (tl := ?tl) (fun i v wv => match i with
    | 0 => v = .pointer (some ⟨w0.heap.size, 1, none⟩)
    | 1 => v = .int .i64 d
    | 2 => v = .bool true
    | 3 => v = .bool true
    | 4 => v = .pointer (some ⟨w0.heap.size, 0, none⟩)
    | 5 => v = .int .i64 n
    | 6 => v = .bool true
    | 7 => v = .bool true
    | 8 => v = .bool true
    | 9 => v = .pointer (some ⟨w0.heap.size, 0, none⟩)
    | 10 => v = .int .i64 n
    | 11 => Nm wv v n
    | 12 => v = .pointer (some ⟨w0.heap.size, 1, none⟩)
    | 13 => v = .int .i64 d
    | 14 => Nm wv v d
    | 15 => Nm wv v (Nat.gcd n d)
    | 16 => Nm wv v 1
    | 17 => v = .int .i64 (cmpN (Nat.gcd n d) 1)
    | 18 => v = .bool (decide (Nat.gcd n d = 1))
    | 19 => v = .bool (decide (Nat.gcd n d = 1))
    | _ => True) (by kernel_rfl) (by kernel_rfl) (by kernel_rfl) (by kernel_rfl) (by decide) ?htl ?hfr ?stab ?steps ?done
  case htl => simp only [List.drop_succ_cons, List.drop_zero]; rfl
  case hfr => intro vals; simp only [putAll, dstAt, Act.put, List.getElem?_toArray, List.getElem?_cons_zero, List.getElem?_cons_succ, Option.bind_some, List.setIfInBounds_toArray, List.set_cons_zero, List.set_cons_succ]; rfl
  case stab =>
    intro i v wa wb h
    try dsimp only
    split <;> first | exact id | (exact fun hf => Nm.only hf h)
  case steps =>
    refine ⟨?_, ?_, ?_, ?_, ?_, ?_, ?_, ?_, ?_, ?_, ?_, ?_, ?_, ?_, ?_, ?_, ?_, ?_, ?_, ?_, trivial⟩
    · intro vals wr hR hp K hK
      dsimp only at hK ⊢
      clear hp
      unfold RunsOp
      go_simp
      exact hK.out _ _ ⟨_, rfl, Only.refl _ _, rfl⟩
    · intro vals wr hR hp K hK
      dsimp only at hK ⊢
      obtain ⟨p0, -⟩ := hp
      replace p0 := p0 rfl
      dsimp only at p0
      rw [p0] at hK ⊢
      clear p0
      unfold RunsOp
      have tb := hR.blk (Blk.drew T1.out) (by simp)
      obtain ⟨c0, c1, cl⟩ := tb.facts2
      clear tb
      go_simp
      exact hK.out _ _ ⟨_, rfl, Only.refl _ _, rfl⟩
    · intro vals wr hR hp K hK
      dsimp only at hK ⊢
      obtain ⟨p1, -⟩ := hp
      replace p1 := p1 rfl
      dsimp only at p1
      rw [p1] at hK ⊢
      clear p1
      unfold RunsOp
      go_simp
      exact hK.out _ _ ⟨_, rfl, Only.refl _ _, rfl⟩
    · intro vals wr hR hp K hK
      dsimp only at hK ⊢
      obtain ⟨p2, -⟩ := hp
      replace p2 := p2 rfl
      dsimp only at p2
      rw [p2] at hK ⊢
      clear p2
      unfold RunsOp
      go_simp
      exact hK.out _ _ ⟨_, rfl, Only.refl _ _, rfl⟩
    · intro vals wr hR hp K hK
      dsimp only at hK ⊢
      obtain ⟨p3, -⟩ := hp
      replace p3 := p3 rfl
      dsimp only at p3
      rw [p3] at hK ⊢
      clear p3
      unfold RunsOp
      go_simp
      exact hK.out _ _ ⟨_, rfl, Only.refl _ _, rfl⟩
    · intro vals wr hR hp K hK
      dsimp only at hK ⊢
      obtain ⟨p4, p3, -⟩ := hp
      replace p4 := p4 rfl
      replace p3 := p3 rfl
      dsimp only at p4 p3
      rw [p4, p3] at hK ⊢
      clear p4 p3
      unfold RunsOp
      have tb := hR.blk (Blk.drew T1.out) (by simp)
      obtain ⟨c0, c1, cl⟩ := tb.facts2
      clear tb
      go_simp
      exact hK.out _ _ ⟨_, rfl, Only.refl _ _, rfl⟩
    · intro vals wr hR hp K hK
      dsimp only at hK ⊢
      obtain ⟨p5, p3, -⟩ := hp
      replace p5 := p5 rfl
      replace p3 := p3 rfl
      dsimp only at p5 p3
      rw [p5, p3] at hK ⊢
      clear p5 p3
      unfold RunsOp
      go_simp
      exact hK.out _ _ ⟨_, rfl, Only.refl _ _, rfl⟩
    · intro vals wr hR hp K hK
      dsimp only at hK ⊢
      obtain ⟨p3, p6, -⟩ := hp
      replace p3 := p3 rfl
      replace p6 := p6 rfl
      dsimp only at p3 p6
      rw [p3, p6] at hK ⊢
      clear p3 p6
      unfold RunsOp
      go_simp
      exact hK.out _ _ ⟨_, rfl, Only.refl _ _, rfl⟩
    · intro vals wr hR hp K hK
      dsimp only at hK ⊢
      obtain ⟨p7, -, -⟩ := hp
      replace p7 := p7 rfl
      dsimp only at p7
      rw [p7] at hK ⊢
      clear p7
      unfold RunsOp
      go_simp
      exact hK.out _ _ ⟨_, rfl, Only.refl _ _, rfl⟩
    · intro vals wr hR hp K hK
      dsimp only at hK ⊢
      obtain ⟨p8, -⟩ := hp
      replace p8 := p8 rfl
      dsimp only at p8
      rw [p8] at hK ⊢
      clear p8
      unfold RunsOp
      go_simp
      exact hK.out _ _ ⟨_, rfl, Only.refl _ _, rfl⟩
    · intro vals wr hR hp K hK
      dsimp only at hK ⊢
      obtain ⟨p9, p8, -⟩ := hp
      replace p9 := p9 rfl
      replace p8 := p8 rfl
      dsimp only at p9 p8
      rw [p9, p8] at hK ⊢
      clear p9 p8
      unfold RunsOp
      have tb := hR.blk (Blk.drew T1.out) (by simp)
      obtain ⟨c0, c1, cl⟩ := tb.facts2
      clear tb
      go_simp
      exact hK.out _ _ ⟨_, rfl, Only.refl _ _, rfl⟩
    · intro vals wr hR hp K hK
      dsimp only at hK ⊢
      obtain ⟨p10, p8, -, -⟩ := hp
      replace p10 := p10 rfl
      replace p8 := p8 rfl
      dsimp only at p10 p8
      rw [p10, p8] at hK ⊢
      clear p10 p8
      unfold RunsOp
      go_simp
      refine (from_any _ (by omega) _).mono ?_
      rintro e w2 ⟨v2, rfl, hv2, o2⟩
      exact hK.out _ _ ⟨_, rfl, o2, hv2⟩
    · intro vals wr hR hp K hK
      dsimp only at hK ⊢
      obtain ⟨p8, -⟩ := hp
      replace p8 := p8 rfl
      dsimp only at p8
      rw [p8] at hK ⊢
      clear p8
      unfold RunsOp
      go_simp
      exact hK.out _ _ ⟨_, rfl, Only.refl _ _, rfl⟩
    · intro vals wr hR hp K hK
      dsimp only at hK ⊢
      obtain ⟨p12, p8, -⟩ := hp
      replace p12 := p12 rfl
      replace p8 := p8 rfl
      dsimp only at p12 p8
      rw [p12, p8] at hK ⊢
      clear p12 p8
      unfold RunsOp
      have tb := hR.blk (Blk.drew T1.out) (by simp)
      obtain ⟨c0, c1, cl⟩ := tb.facts2
      clear tb
      go_simp
      exact hK.out _ _ ⟨_, rfl, Only.refl _ _, rfl⟩
    · intro vals wr hR hp K hK
      dsimp only at hK ⊢
      obtain ⟨p13, -, p8, -⟩ := hp
      replace p13 := p13 rfl
      replace p8 := p8 rfl
      dsimp only at p13 p8
      rw [p13, p8] at hK ⊢
      clear p13 p8
      unfold RunsOp
      go_simp
      refine (from_any _ (by omega) _).mono ?_
      rintro e w2 ⟨v2, rfl, hv2, o2⟩
      exact hK.out _ _ ⟨_, rfl, o2, hv2⟩
    · intro vals wr hR hp K hK
      dsimp only at hK ⊢
      obtain ⟨p11, p14, -, p8, -⟩ := hp
      replace p11 := p11 rfl
      replace p14 := p14 rfl
      replace p8 := p8 rfl
      dsimp only at p11 p14 p8
      rw [p8] at hK ⊢
      clear p8
      unfold RunsOp
      go_simp
      refine (gcdn_any p11 p14 (by omega) (by omega)).mono ?_
      rintro e w2 ⟨v2, rfl, hv2, o2⟩
      exact hK.out _ _ ⟨_, rfl, o2, hv2⟩
    · intro vals wr hR hp K hK
      dsimp only at hK ⊢
      obtain ⟨p8, -⟩ := hp
      replace p8 := p8 rfl
      dsimp only at p8
      rw [p8] at hK ⊢
      clear p8
      unfold RunsOp
      go_simp
      exact hK.out _ _ ⟨_, rfl, (Only.refl [] wr).alloc _, one_nm wr⟩
    · intro vals wr hR hp K hK
      dsimp only at hK ⊢
      obtain ⟨p15, p16, -, p8, -⟩ := hp
      replace p15 := p15 rfl
      replace p16 := p16 rfl
      replace p8 := p8 rfl
      dsimp only at p15 p16 p8
      rw [p8] at hK ⊢
      clear p8
      unfold RunsOp
      go_simp
      refine (cmpn_any p15 p16 (by omega) (by omega)).mono ?_
      rintro e w2 ⟨rfl, o2⟩
      exact hK.out _ _ ⟨_, rfl, o2, rfl⟩
    · intro vals wr hR hp K hK
      dsimp only at hK ⊢
      obtain ⟨p17, p8, -⟩ := hp
      replace p17 := p17 rfl
      replace p8 := p8 rfl
      dsimp only at p17 p8
      obtain p17 := p17
      rw [p17, p8] at hK ⊢
      clear p17 p8
      unfold RunsOp
      have hcn := HC.out
      go_simp
      exact hK.out _ _ ⟨_, rfl, Only.refl _ _, rfl⟩
    · intro vals wr hR hp K hK
      dsimp only at hK ⊢
      obtain ⟨p8, p18, -⟩ := hp
      replace p8 := p8 rfl
      replace p18 := p18 rfl
      dsimp only at p8 p18
      rw [p8, p18] at hK ⊢
      clear p8 p18
      unfold RunsOp
      go_simp
      exact hK.out _ _ ⟨_, rfl, Only.refl _ _, rfl⟩
  case done =>
    intro vals wd hR hF
    have f : vals 19 = .bool (decide (Nat.gcd n d = 1)) := hF 19 (by decide)
    rw [f]
    have O9 := Lib.hid (Only.trans (O1.out.drew) hR (by simp))
    clear hF f hR
    go_wp2_with (fail)
    go_ret
    exact ⟨rfl, O9.out⟩
end Go.Proofs.Ytcggeogpanackaa
