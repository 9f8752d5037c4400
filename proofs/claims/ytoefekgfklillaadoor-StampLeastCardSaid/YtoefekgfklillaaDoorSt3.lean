/- Stamps: what comes next, what is after a span: the program's and the reference's. -/
import Derived.Test.YtoefekgfklillaaDoorSt2
namespace Go.Proofs.YtoefekgfklillaaDoor
open Go.RowKit Go.Kx
set_option maxRecDepth 20000

theorem eq_st27 (a b c d e f : Int) (W : World) : (binOp .eql 27 (.agg #[.int .i64 a, .int .i64 b, .int .i64 c]) (.agg #[.int .i64 d, .int .i64 e, .int .i64 f])).run Tryd.prog W = .ok (.bool (decide (a = d ∧ b = e ∧ c = f))) W := by
  by_cases h : a = d <;> by_cases h2 : b = e <;> by_cases h3 : c = f <;> simp [go_sem, h, h2, h3]
theorem eq_st27T (W : World) : (binOp .eql 27 (.agg #[.int .i64 1, .int .i64 0, .int .i64 0]) (.agg #[.int .i64 1, .int .i64 0, .int .i64 0])).run Tryd.prog W = .ok (.bool true) W := by
  rw [eq_st27]; rfl
theorem eq_st27F {s : St} (h : s ≠ ((1, 0), 0)) (W : World) : (binOp .eql 27 (.agg #[.int .i64 s.1.1, .int .i64 s.1.2, .int .i64 s.2]) (.agg #[.int .i64 1, .int .i64 0, .int .i64 0])).run Tryd.prog W = .ok (.bool false) W := by
  rw [eq_st27, decide_eq_false]
  exact fun k => h (Prod.ext (Prod.ext k.1 k.2.1) k.2.2)
abbrev Se := St × Int
def nextT (s : St) : Se := if stR s = true ∧ s ≠ ((1, 0), 0) then (if s.2 = 1099511627776 then (((0, 0), 0), 2) else ((s.1, s.2 + 1), 0)) else (((0, 0), 0), 1)
def afterT (s : St) (t : Tm) : Se :=
  if stR s = true ∧ s ≠ ((1, 0), 0) ∧ t.right = true then
    (if t = (1, 0) then (((1, 0), 0), 0) else if t.1 = 0 then nextT s else if (addT s.1 t).2 ≠ 0 then (((0, 0), 0), (addT s.1 t).2) else (((addT s.1 t).1, 0), 0))
  else (((0, 0), 0), 1)
theorem stR_bounds {s : St} (h : stR s = true) : 0 ≤ s.2 ∧ s.2 ≤ 1099511627776 := by
  unfold stR mostS at h
  simp only [Bool.and_eq_true, decide_eq_true_eq] at h
  exact ⟨h.1.1.2, h.1.2⟩
theorem stR_never : stR ((1, 0), 0) = true := by decide

set_option maxHeartbeats 1000000 in
theorem next_w (s : St) (ho : s.ok) (hr : stR s = false) (w : World) :
    Calls Tryd.prog 19 #[.agg #[.int .i64 s.1.1, .int .i64 s.1.2, .int .i64 s.2]] w fun e w' => e = .returned (.tuple #[.agg #[.int .i64 0, .int .i64 0, .int .i64 0], .int .i64 1]) ∧ Only [] w w' := by
  have HR := Lib.hid hr
  clear hr
  have O0 := Lib.hid (Only.refl [] w)
  go_enter Tryd.func19, Tryd.ntmps19
  have B0 := Lib.hid ((Blk.alloc (by have h := Blk.new w 27 #[.int .i64 s.1.1, .int .i64 s.1.2, .int .i64 s.2]; simpa using h : Blk (w.alloc (.cells #[.int .i64 s.1.1, .int .i64 s.1.2, .int .i64 s.2] 27)) (w.heap.size) 27 #[.int .i64 s.1.1, .int .i64 s.1.2, .int .i64 s.2]) _) : Blk ((w.alloc (.cells #[.int .i64 s.1.1, .int .i64 s.1.2, .int .i64 s.2] 27)).alloc (.cells #[.int .i64 0, .int .i64 0, .int .i64 0] 27)) (w.heap.size) 27 #[.int .i64 s.1.1, .int .i64 s.1.2, .int .i64 s.2])
  have B1 := Lib.hid ((by have h := Blk.new (w.alloc (.cells #[.int .i64 s.1.1, .int .i64 s.1.2, .int .i64 s.2] 27)) 27 #[.int .i64 0, .int .i64 0, .int .i64 0]; simpa using h : Blk ((w.alloc (.cells #[.int .i64 s.1.1, .int .i64 s.1.2, .int .i64 s.2] 27)).alloc (.cells #[.int .i64 0, .int .i64 0, .int .i64 0] 27)) (w.heap.size + 1) 27 #[.int .i64 0, .int .i64 0, .int .i64 0]) : Blk ((w.alloc (.cells #[.int .i64 s.1.1, .int .i64 s.1.2, .int .i64 s.2] 27)).alloc (.cells #[.int .i64 0, .int .i64 0, .int .i64 0] 27)) (w.heap.size + 1) 27 #[.int .i64 0, .int .i64 0, .int .i64 0])
  have O1 := Lib.hid (((O0.out.alloc _).alloc _) : Only [] w ((w.alloc (.cells #[.int .i64 s.1.1, .int .i64 s.1.2, .int .i64 s.2] 27)).alloc (.cells #[.int .i64 0, .int .i64 0, .int .i64 0] 27)))
  clear O0
  go_wp2_with (fail)
  refine wp_region_facts 8 [] (fr := ?fr) (tl := ?tl) (fun i v wv => match i with
    | 0 => v = .agg #[.int .i64 s.1.1, .int .i64 s.1.2, .int .i64 s.2]
    | 1 => v = .bool false
    | 2 => v = .bool true
    | 3 => v = .bool true
    | 4 => v = undef
    | 5 => v = undef
    | 6 => v = undef
    | 7 => v = .bool true
    | _ => True) (by kernel_rfl) (by kernel_rfl) (by kernel_rfl) (by kernel_rfl) (by decide) ?htl ?hfr ?stab ?steps ?done
  case htl => simp only [List.drop_succ_cons, List.drop_zero]; rfl
  case hfr => intro vals; simp only [putAll, dstAt, Act.put, List.getElem?_toArray, List.getElem?_cons_zero, List.getElem?_cons_succ, Option.bind_some, List.setIfInBounds_toArray, List.set_cons_zero, List.set_cons_succ]; rfl
  case stab =>
    intro i v wa wb h
    try dsimp only
    split <;> first | exact id | fail
  case steps =>
    refine ⟨?_, ?_, ?_, ?_, ?_, ?_, ?_, ?_, trivial⟩
    · intro vals wr hR hp K hK
      dsimp only at hK ⊢
      clear hp
      unfold RunsOp
      have tb0 := hR.blk (by first | exact B0.out | exact Blk.drew B0.out) (by simp)
      obtain ⟨c00, c01, c02, cl0⟩ := tb0.facts3
      clear tb0
      go_simp
      exact hK.out _ _ ⟨_, rfl, Only.refl _ _, rfl⟩
    · intro vals wr hR hp K hK
      dsimp only at hK ⊢
      obtain ⟨p0, -⟩ := hp
      replace p0 := p0 rfl
      dsimp only at p0
      rw [p0] at hK ⊢
      clear p0
      unfold RunsOp
      go_simp
      refine (strightr ho HR.out _).mono ?_
      rintro e w2 ⟨rfl, o2⟩
      exact hK.out _ _ ⟨_, rfl, o2, rfl⟩
    · intro vals wr hR hp K hK
      dsimp only at hK ⊢
      obtain ⟨p1, -⟩ := hp
      replace p1 := p1 rfl
      dsimp only at p1
      obtain p1 := p1
      rw [p1] at hK ⊢
      clear p1
      unfold RunsOp
      go_simp
      exact hK.out _ _ ⟨_, rfl, Only.refl _ _, rfl⟩
    · intro vals wr hR hp K hK
      dsimp only at hK ⊢
      obtain ⟨p2, -, -⟩ := hp
      replace p2 := p2 rfl
      dsimp only at p2
      rw [p2] at hK ⊢
      clear p2
      unfold RunsOp
      go_simp
      exact hK.out _ _ ⟨_, rfl, Only.refl _ _, rfl⟩
    · intro vals wr hR hp K hK
      dsimp only at hK ⊢
      obtain ⟨p3, -⟩ := hp
      replace p3 := p3 rfl
      dsimp only at p3
      rw [p3] at hK ⊢
      clear p3
      unfold RunsOp
      have tb0 := hR.blk (by first | exact B0.out | exact Blk.drew B0.out) (by simp)
      obtain ⟨c00, c01, c02, cl0⟩ := tb0.facts3
      clear tb0
      go_simp
      exact hK.out _ _ ⟨_, rfl, Only.refl _ _, rfl⟩
    · intro vals wr hR hp K hK
      dsimp only at hK ⊢
      obtain ⟨p3, -, -⟩ := hp
      replace p3 := p3 rfl
      dsimp only at p3
      rw [p3] at hK ⊢
      clear p3
      unfold RunsOp
      go_simp
      exact hK.out _ _ ⟨_, rfl, Only.refl _ _, rfl⟩
    · intro vals wr hR hp K hK
      dsimp only at hK ⊢
      obtain ⟨p4, p5, p3, -⟩ := hp
      replace p4 := p4 rfl
      replace p5 := p5 rfl
      replace p3 := p3 rfl
      dsimp only at p4 p5 p3
      rw [p4, p5, p3] at hK ⊢
      clear p4 p5 p3
      unfold RunsOp
      go_simp
      exact hK.out _ _ ⟨_, rfl, Only.refl _ _, rfl⟩
    · intro vals wr hR hp K hK
      dsimp only at hK ⊢
      obtain ⟨p3, p6, -⟩ := hp
      replace p3 := p3 rfl
      replace p6 := p6 rfl
      dsimp only at p3 p6
      rw [p3, p6] at hK ⊢
      clear p3 p6
      unfold RunsOp
      go_simp
      exact hK.out _ _ ⟨_, rfl, Only.refl _ _, rfl⟩
  intro vals w2 hR hF
  have f7 : vals 7 = .bool true := hF 7 (by decide)
  rw [f7]
  clear hF f7
  refine wpList_nil ?_
  have B0x := hR.blk (t := 27) (cs := #[.int .i64 s.1.1, .int .i64 s.1.2, .int .i64 s.2]) (g := w.heap.size) (by first | exact B0.out | exact Blk.drewN B0.out _ | exact Blk.drew B0.out) (by simp)
  have B1x := hR.blk (t := 27) (cs := #[.int .i64 0, .int .i64 0, .int .i64 0]) (g := w.heap.size + 1) (by first | exact B1.out | exact Blk.drewN B1.out _ | exact Blk.drew B1.out) (by simp)
  have O2x : Only [] w w2 := (by first | exact Only.trans O1.out hR (by simp) | exact Only.trans (Only.drewN O1.out _) hR (by simp) | exact Only.trans (Only.drew O1.out) hR (by simp))
  obtain ⟨B0c0, B0c1, B0c2, B0l⟩ := B0x.facts3
  obtain ⟨B1c0, B1c1, B1c2, B1l⟩ := B1x.facts3
  clear B0 B1 O1 hR
  have B0 := Lib.hid B0x; have B1 := Lib.hid B1x; have O2 := Lib.hid O2x
  clear B0x B1x O2x
  have fr0 := B1.out.frozen 0
  have fr1 := B1.out.frozen 1
  have fr2 := B1.out.frozen 2
  go_wp2_with (fail)
  exact bodyPost_ret (v := .tuple #[.agg #[.int .i64 0, .int .i64 0, .int .i64 0], .int .i64 1]) (by simp [results, Tryd.results19, go_sem, B1c0, B1c1, B1c2]) rfl ⟨rfl, only_three O2.out (by simp; try omega) (by simp; try omega) (by simp; try omega) _ _ _⟩

set_option maxHeartbeats 1000000 in
theorem next_n   (w : World) :
    Calls Tryd.prog 19 #[.agg #[.int .i64 1, .int .i64 0, .int .i64 0]] w fun e w' => e = .returned (.tuple #[.agg #[.int .i64 0, .int .i64 0, .int .i64 0], .int .i64 1]) ∧ Only [] w w' := by
  have hE := eq_st27T
  have O0 := Lib.hid (Only.refl [] w)
  go_enter Tryd.func19, Tryd.ntmps19
  have B0 := Lib.hid ((Blk.alloc (by have h := Blk.new w 27 #[.int .i64 1, .int .i64 0, .int .i64 0]; simpa using h : Blk (w.alloc (.cells #[.int .i64 1, .int .i64 0, .int .i64 0] 27)) (w.heap.size) 27 #[.int .i64 1, .int .i64 0, .int .i64 0]) _) : Blk ((w.alloc (.cells #[.int .i64 1, .int .i64 0, .int .i64 0] 27)).alloc (.cells #[.int .i64 0, .int .i64 0, .int .i64 0] 27)) (w.heap.size) 27 #[.int .i64 1, .int .i64 0, .int .i64 0])
  have B1 := Lib.hid ((by have h := Blk.new (w.alloc (.cells #[.int .i64 1, .int .i64 0, .int .i64 0] 27)) 27 #[.int .i64 0, .int .i64 0, .int .i64 0]; simpa using h : Blk ((w.alloc (.cells #[.int .i64 1, .int .i64 0, .int .i64 0] 27)).alloc (.cells #[.int .i64 0, .int .i64 0, .int .i64 0] 27)) (w.heap.size + 1) 27 #[.int .i64 0, .int .i64 0, .int .i64 0]) : Blk ((w.alloc (.cells #[.int .i64 1, .int .i64 0, .int .i64 0] 27)).alloc (.cells #[.int .i64 0, .int .i64 0, .int .i64 0] 27)) (w.heap.size + 1) 27 #[.int .i64 0, .int .i64 0, .int .i64 0])
  have O1 := Lib.hid (((O0.out.alloc _).alloc _) : Only [] w ((w.alloc (.cells #[.int .i64 1, .int .i64 0, .int .i64 0] 27)).alloc (.cells #[.int .i64 0, .int .i64 0, .int .i64 0] 27)))
  clear O0
  go_wp2_with (fail)
  refine wp_region_facts 8 [] (fr := ?fr) (tl := ?tl) (fun i v wv => match i with
    | 0 => v = .agg #[.int .i64 1, .int .i64 0, .int .i64 0]
    | 1 => v = .bool true
    | 2 => v = .bool false
    | 3 => v = .bool false
    | 4 => v = .agg #[.int .i64 1, .int .i64 0, .int .i64 0]
    | 5 => v = .agg #[.int .i64 1, .int .i64 0, .int .i64 0]
    | 6 => v = .bool true
    | 7 => v = .bool true
    | _ => True) (by kernel_rfl) (by kernel_rfl) (by kernel_rfl) (by kernel_rfl) (by decide) ?htl ?hfr ?stab ?steps ?done
  case htl => simp only [List.drop_succ_cons, List.drop_zero]; rfl
  case hfr => intro vals; simp only [putAll, dstAt, Act.put, List.getElem?_toArray, List.getElem?_cons_zero, List.getElem?_cons_succ, Option.bind_some, List.setIfInBounds_toArray, List.set_cons_zero, List.set_cons_succ]; rfl
  case stab =>
    intro i v wa wb h
    try dsimp only
    split <;> first | exact id | fail
  case steps =>
    refine ⟨?_, ?_, ?_, ?_, ?_, ?_, ?_, ?_, trivial⟩
    · intro vals wr hR hp K hK
      dsimp only at hK ⊢
      clear hp
      unfold RunsOp
      have tb0 := hR.blk (by first | exact B0.out | exact Blk.drew B0.out) (by simp)
      obtain ⟨c00, c01, c02, cl0⟩ := tb0.facts3
      clear tb0
      go_simp
      exact hK.out _ _ ⟨_, rfl, Only.refl _ _, rfl⟩
    · intro vals wr hR hp K hK
      dsimp only at hK ⊢
      obtain ⟨p0, -⟩ := hp
      replace p0 := p0 rfl
      dsimp only at p0
      rw [p0] at hK ⊢
      clear p0
      unfold RunsOp
      go_simp
      refine (strightr (s := ((1, 0), 0)) ⟨ok_never, by unfold I64; omega⟩ stR_never _).mono ?_
      rintro e w2 ⟨rfl, o2⟩
      exact hK.out _ _ ⟨_, rfl, o2, rfl⟩
    · intro vals wr hR hp K hK
      dsimp only at hK ⊢
      obtain ⟨p1, -⟩ := hp
      replace p1 := p1 rfl
      dsimp only at p1
      obtain p1 := p1
      rw [p1] at hK ⊢
      clear p1
      unfold RunsOp
      go_simp
      exact hK.out _ _ ⟨_, rfl, Only.refl _ _, rfl⟩
    · intro vals wr hR hp K hK
      dsimp only at hK ⊢
      obtain ⟨p2, -, -⟩ := hp
      replace p2 := p2 rfl
      dsimp only at p2
      rw [p2] at hK ⊢
      clear p2
      unfold RunsOp
      go_simp
      exact hK.out _ _ ⟨_, rfl, Only.refl _ _, rfl⟩
    · intro vals wr hR hp K hK
      dsimp only at hK ⊢
      obtain ⟨p3, -⟩ := hp
      replace p3 := p3 rfl
      dsimp only at p3
      rw [p3] at hK ⊢
      clear p3
      unfold RunsOp
      have tb0 := hR.blk (by first | exact B0.out | exact Blk.drew B0.out) (by simp)
      obtain ⟨c00, c01, c02, cl0⟩ := tb0.facts3
      clear tb0
      go_simp
      exact hK.out _ _ ⟨_, rfl, Only.refl _ _, rfl⟩
    · intro vals wr hR hp K hK
      dsimp only at hK ⊢
      obtain ⟨p3, -, -⟩ := hp
      replace p3 := p3 rfl
      dsimp only at p3
      rw [p3] at hK ⊢
      clear p3
      unfold RunsOp
      go_simp
      refine (stnever_any _).mono ?_
      rintro e w2 ⟨rfl, o2⟩
      exact hK.out _ _ ⟨_, rfl, o2, rfl⟩
    · intro vals wr hR hp K hK
      dsimp only at hK ⊢
      obtain ⟨p4, p5, p3, -⟩ := hp
      replace p4 := p4 rfl
      replace p5 := p5 rfl
      replace p3 := p3 rfl
      dsimp only at p4 p5 p3
      obtain p5 := p5
      rw [p4, p5, p3] at hK ⊢
      clear p4 p5 p3
      unfold RunsOp
      go_simp
      exact hK.out _ _ ⟨_, rfl, Only.refl _ _, rfl⟩
    · intro vals wr hR hp K hK
      dsimp only at hK ⊢
      obtain ⟨p3, p6, -⟩ := hp
      replace p3 := p3 rfl
      replace p6 := p6 rfl
      dsimp only at p3 p6
      rw [p3, p6] at hK ⊢
      clear p3 p6
      unfold RunsOp
      go_simp
      exact hK.out _ _ ⟨_, rfl, Only.refl _ _, rfl⟩
  intro vals w2 hR hF
  have f7 : vals 7 = .bool true := hF 7 (by decide)
  rw [f7]
  clear hF f7
  refine wpList_nil ?_
  have B0x := hR.blk (t := 27) (cs := #[.int .i64 1, .int .i64 0, .int .i64 0]) (g := w.heap.size) (by first | exact B0.out | exact Blk.drewN B0.out _ | exact Blk.drew B0.out) (by simp)
  have B1x := hR.blk (t := 27) (cs := #[.int .i64 0, .int .i64 0, .int .i64 0]) (g := w.heap.size + 1) (by first | exact B1.out | exact Blk.drewN B1.out _ | exact Blk.drew B1.out) (by simp)
  have O2x : Only [] w w2 := (by first | exact Only.trans O1.out hR (by simp) | exact Only.trans (Only.drewN O1.out _) hR (by simp) | exact Only.trans (Only.drew O1.out) hR (by simp))
  obtain ⟨B0c0, B0c1, B0c2, B0l⟩ := B0x.facts3
  obtain ⟨B1c0, B1c1, B1c2, B1l⟩ := B1x.facts3
  clear B0 B1 O1 hR
  have B0 := Lib.hid B0x; have B1 := Lib.hid B1x; have O2 := Lib.hid O2x
  clear B0x B1x O2x
  have fr0 := B1.out.frozen 0
  have fr1 := B1.out.frozen 1
  have fr2 := B1.out.frozen 2
  go_wp2_with (fail)
  exact bodyPost_ret (v := .tuple #[.agg #[.int .i64 0, .int .i64 0, .int .i64 0], .int .i64 1]) (by simp [results, Tryd.results19, go_sem, B1c0, B1c1, B1c2]) rfl ⟨rfl, only_three O2.out (by simp; try omega) (by simp; try omega) (by simp; try omega) _ _ _⟩

set_option maxHeartbeats 1000000 in
theorem next_m (s : St) (ho : s.ok) (hr : stR s = true) (hn : s ≠ ((1, 0), 0)) (hc : s.2 = 1099511627776) (w : World) :
    Calls Tryd.prog 19 #[.agg #[.int .i64 s.1.1, .int .i64 s.1.2, .int .i64 s.2]] w fun e w' => e = .returned (.tuple #[.agg #[.int .i64 0, .int .i64 0, .int .i64 0], .int .i64 2]) ∧ Only [] w w' := by
  have HR := Lib.hid hr
  clear hr
  have hE := eq_st27F hn
  have hc' : (s.2 == 1099511627776) = true := by simp; omega
  clear hn hc
  have O0 := Lib.hid (Only.refl [] w)
  go_enter Tryd.func19, Tryd.ntmps19
  have B0 := Lib.hid ((Blk.alloc (by have h := Blk.new w 27 #[.int .i64 s.1.1, .int .i64 s.1.2, .int .i64 s.2]; simpa using h : Blk (w.alloc (.cells #[.int .i64 s.1.1, .int .i64 s.1.2, .int .i64 s.2] 27)) (w.heap.size) 27 #[.int .i64 s.1.1, .int .i64 s.1.2, .int .i64 s.2]) _) : Blk ((w.alloc (.cells #[.int .i64 s.1.1, .int .i64 s.1.2, .int .i64 s.2] 27)).alloc (.cells #[.int .i64 0, .int .i64 0, .int .i64 0] 27)) (w.heap.size) 27 #[.int .i64 s.1.1, .int .i64 s.1.2, .int .i64 s.2])
  have B1 := Lib.hid ((by have h := Blk.new (w.alloc (.cells #[.int .i64 s.1.1, .int .i64 s.1.2, .int .i64 s.2] 27)) 27 #[.int .i64 0, .int .i64 0, .int .i64 0]; simpa using h : Blk ((w.alloc (.cells #[.int .i64 s.1.1, .int .i64 s.1.2, .int .i64 s.2] 27)).alloc (.cells #[.int .i64 0, .int .i64 0, .int .i64 0] 27)) (w.heap.size + 1) 27 #[.int .i64 0, .int .i64 0, .int .i64 0]) : Blk ((w.alloc (.cells #[.int .i64 s.1.1, .int .i64 s.1.2, .int .i64 s.2] 27)).alloc (.cells #[.int .i64 0, .int .i64 0, .int .i64 0] 27)) (w.heap.size + 1) 27 #[.int .i64 0, .int .i64 0, .int .i64 0])
  have O1 := Lib.hid (((O0.out.alloc _).alloc _) : Only [] w ((w.alloc (.cells #[.int .i64 s.1.1, .int .i64 s.1.2, .int .i64 s.2] 27)).alloc (.cells #[.int .i64 0, .int .i64 0, .int .i64 0] 27)))
  clear O0
  go_wp2_with (fail)
  refine wp_region_facts 8 [] (fr := ?fr) (tl := ?tl) (fun i v wv => match i with
    | 0 => v = .agg #[.int .i64 s.1.1, .int .i64 s.1.2, .int .i64 s.2]
    | 1 => v = .bool true
    | 2 => v = .bool false
    | 3 => v = .bool false
    | 4 => v = .agg #[.int .i64 s.1.1, .int .i64 s.1.2, .int .i64 s.2]
    | 5 => v = .agg #[.int .i64 1, .int .i64 0, .int .i64 0]
    | 6 => v = .bool false
    | 7 => v = .bool false
    | _ => True) (by kernel_rfl) (by kernel_rfl) (by kernel_rfl) (by kernel_rfl) (by decide) ?htl ?hfr ?stab ?steps ?done
  case htl => simp only [List.drop_succ_cons, List.drop_zero]; rfl
  case hfr => intro vals; simp only [putAll, dstAt, Act.put, List.getElem?_toArray, List.getElem?_cons_zero, List.getElem?_cons_succ, Option.bind_some, List.setIfInBounds_toArray, List.set_cons_zero, List.set_cons_succ]; rfl
  case stab =>
    intro i v wa wb h
    try dsimp only
    split <;> first | exact id | fail
  case steps =>
    refine ⟨?_, ?_, ?_, ?_, ?_, ?_, ?_, ?_, trivial⟩
    · intro vals wr hR hp K hK
      dsimp only at hK ⊢
      clear hp
      unfold RunsOp
      have tb0 := hR.blk (by first | exact B0.out | exact Blk.drew B0.out) (by simp)
      obtain ⟨c00, c01, c02, cl0⟩ := tb0.facts3
      clear tb0
      go_simp
      exact hK.out _ _ ⟨_, rfl, Only.refl _ _, rfl⟩
    · intro vals wr hR hp K hK
      dsimp only at hK ⊢
      obtain ⟨p0, -⟩ := hp
      replace p0 := p0 rfl
      dsimp only at p0
      rw [p0] at hK ⊢
      clear p0
      unfold RunsOp
      go_simp
      refine (strightr ho HR.out _).mono ?_
      rintro e w2 ⟨rfl, o2⟩
      exact hK.out _ _ ⟨_, rfl, o2, rfl⟩
    · intro vals wr hR hp K hK
      dsimp only at hK ⊢
      obtain ⟨p1, -⟩ := hp
      replace p1 := p1 rfl
      dsimp only at p1
      obtain p1 := p1
      rw [p1] at hK ⊢
      clear p1
      unfold RunsOp
      go_simp
      exact hK.out _ _ ⟨_, rfl, Only.refl _ _, rfl⟩
    · intro vals wr hR hp K hK
      dsimp only at hK ⊢
      obtain ⟨p2, -, -⟩ := hp
      replace p2 := p2 rfl
      dsimp only at p2
      rw [p2] at hK ⊢
      clear p2
      unfold RunsOp
      go_simp
      exact hK.out _ _ ⟨_, rfl, Only.refl _ _, rfl⟩
    · intro vals wr hR hp K hK
      dsimp only at hK ⊢
      obtain ⟨p3, -⟩ := hp
      replace p3 := p3 rfl
      dsimp only at p3
      rw [p3] at hK ⊢
      clear p3
      unfold RunsOp
      have tb0 := hR.blk (by first | exact B0.out | exact Blk.drew B0.out) (by simp)
      obtain ⟨c00, c01, c02, cl0⟩ := tb0.facts3
      clear tb0
      go_simp
      exact hK.out _ _ ⟨_, rfl, Only.refl _ _, rfl⟩
    · intro vals wr hR hp K hK
      dsimp only at hK ⊢
      obtain ⟨p3, -, -⟩ := hp
      replace p3 := p3 rfl
      dsimp only at p3
      rw [p3] at hK ⊢
      clear p3
      unfold RunsOp
      go_simp
      refine (stnever_any _).mono ?_
      rintro e w2 ⟨rfl, o2⟩
      exact hK.out _ _ ⟨_, rfl, o2, rfl⟩
    · intro vals wr hR hp K hK
      dsimp only at hK ⊢
      obtain ⟨p4, p5, p3, -⟩ := hp
      replace p4 := p4 rfl
      replace p5 := p5 rfl
      replace p3 := p3 rfl
      dsimp only at p4 p5 p3
      obtain p5 := p5
      rw [p4, p5, p3] at hK ⊢
      clear p4 p5 p3
      unfold RunsOp
      go_simp
      exact hK.out _ _ ⟨_, rfl, Only.refl _ _, rfl⟩
    · intro vals wr hR hp K hK
      dsimp only at hK ⊢
      obtain ⟨p3, p6, -⟩ := hp
      replace p3 := p3 rfl
      replace p6 := p6 rfl
      dsimp only at p3 p6
      rw [p3, p6] at hK ⊢
      clear p3 p6
      unfold RunsOp
      go_simp
      exact hK.out _ _ ⟨_, rfl, Only.refl _ _, rfl⟩
  intro vals w2 hR hF
  have f7 : vals 7 = .bool false := hF 7 (by decide)
  rw [f7]
  clear hF f7
  refine wpList_nil ?_
  have B0x := hR.blk (t := 27) (cs := #[.int .i64 s.1.1, .int .i64 s.1.2, .int .i64 s.2]) (g := w.heap.size) (by first | exact B0.out | exact Blk.drewN B0.out _ | exact Blk.drew B0.out) (by simp)
  have B1x := hR.blk (t := 27) (cs := #[.int .i64 0, .int .i64 0, .int .i64 0]) (g := w.heap.size + 1) (by first | exact B1.out | exact Blk.drewN B1.out _ | exact Blk.drew B1.out) (by simp)
  have O2x : Only [] w w2 := (by first | exact Only.trans O1.out hR (by simp) | exact Only.trans (Only.drewN O1.out _) hR (by simp) | exact Only.trans (Only.drew O1.out) hR (by simp))
  obtain ⟨B0c0, B0c1, B0c2, B0l⟩ := B0x.facts3
  obtain ⟨B1c0, B1c1, B1c2, B1l⟩ := B1x.facts3
  clear B0 B1 O1 hR
  have B0 := Lib.hid B0x; have B1 := Lib.hid B1x; have O2 := Lib.hid O2x
  clear B0x B1x O2x
  have fr0 := B1.out.frozen 0
  have fr1 := B1.out.frozen 1
  have fr2 := B1.out.frozen 2
  go_wp2_with (fail)
  exact bodyPost_ret (v := .tuple #[.agg #[.int .i64 0, .int .i64 0, .int .i64 0], .int .i64 2]) (by simp [results, Tryd.results19, go_sem, B1c0, B1c1, B1c2]) rfl ⟨rfl, only_three O2.out (by simp; try omega) (by simp; try omega) (by simp; try omega) _ _ _⟩

set_option maxHeartbeats 1000000 in
theorem next_k (s : St) (ho : s.ok) (hr : stR s = true) (hn : s ≠ ((1, 0), 0)) (h0 : 0 ≤ s.2) (h9 : s.2 ≤ 1099511627776) (hc : s.2 ≠ 1099511627776) (w : World) :
    Calls Tryd.prog 19 #[.agg #[.int .i64 s.1.1, .int .i64 s.1.2, .int .i64 s.2]] w fun e w' => e = .returned (.tuple #[.agg #[.int .i64 s.1.1, .int .i64 s.1.2, .int .i64 (s.2 + 1)], .int .i64 0]) ∧ Only [] w w' := by
  have HR := Lib.hid hr
  clear hr
  have hE := eq_st27F hn
  have hc' : (s.2 == 1099511627776) = false := by simp; omega
  clear hn hc
  have O0 := Lib.hid (Only.refl [] w)
  go_enter Tryd.func19, Tryd.ntmps19
  have B0 := Lib.hid ((Blk.alloc (by have h := Blk.new w 27 #[.int .i64 s.1.1, .int .i64 s.1.2, .int .i64 s.2]; simpa using h : Blk (w.alloc (.cells #[.int .i64 s.1.1, .int .i64 s.1.2, .int .i64 s.2] 27)) (w.heap.size) 27 #[.int .i64 s.1.1, .int .i64 s.1.2, .int .i64 s.2]) _) : Blk ((w.alloc (.cells #[.int .i64 s.1.1, .int .i64 s.1.2, .int .i64 s.2] 27)).alloc (.cells #[.int .i64 0, .int .i64 0, .int .i64 0] 27)) (w.heap.size) 27 #[.int .i64 s.1.1, .int .i64 s.1.2, .int .i64 s.2])
  have B1 := Lib.hid ((by have h := Blk.new (w.alloc (.cells #[.int .i64 s.1.1, .int .i64 s.1.2, .int .i64 s.2] 27)) 27 #[.int .i64 0, .int .i64 0, .int .i64 0]; simpa using h : Blk ((w.alloc (.cells #[.int .i64 s.1.1, .int .i64 s.1.2, .int .i64 s.2] 27)).alloc (.cells #[.int .i64 0, .int .i64 0, .int .i64 0] 27)) (w.heap.size + 1) 27 #[.int .i64 0, .int .i64 0, .int .i64 0]) : Blk ((w.alloc (.cells #[.int .i64 s.1.1, .int .i64 s.1.2, .int .i64 s.2] 27)).alloc (.cells #[.int .i64 0, .int .i64 0, .int .i64 0] 27)) (w.heap.size + 1) 27 #[.int .i64 0, .int .i64 0, .int .i64 0])
  have O1 := Lib.hid (((O0.out.alloc _).alloc _) : Only [] w ((w.alloc (.cells #[.int .i64 s.1.1, .int .i64 s.1.2, .int .i64 s.2] 27)).alloc (.cells #[.int .i64 0, .int .i64 0, .int .i64 0] 27)))
  clear O0
  go_wp2_with (fail)
  refine wp_region_facts 8 [] (fr := ?fr) (tl := ?tl) (fun i v wv => match i with
    | 0 => v = .agg #[.int .i64 s.1.1, .int .i64 s.1.2, .int .i64 s.2]
    | 1 => v = .bool true
    | 2 => v = .bool false
    | 3 => v = .bool false
    | 4 => v = .agg #[.int .i64 s.1.1, .int .i64 s.1.2, .int .i64 s.2]
    | 5 => v = .agg #[.int .i64 1, .int .i64 0, .int .i64 0]
    | 6 => v = .bool false
    | 7 => v = .bool false
    | _ => True) (by kernel_rfl) (by kernel_rfl) (by kernel_rfl) (by kernel_rfl) (by decide) ?htl ?hfr ?stab ?steps ?done
  case htl => simp only [List.drop_succ_cons, List.drop_zero]; rfl
  case hfr => intro vals; simp only [putAll, dstAt, Act.put, List.getElem?_toArray, List.getElem?_cons_zero, List.getElem?_cons_succ, Option.bind_some, List.setIfInBounds_toArray, List.set_cons_zero, List.set_cons_succ]; rfl
  case stab =>
    intro i v wa wb h
    try dsimp only
    split <;> first | exact id | fail
  case steps =>
    refine ⟨?_, ?_, ?_, ?_, ?_, ?_, ?_, ?_, trivial⟩
    · intro vals wr hR hp K hK
      dsimp only at hK ⊢
      clear hp
      unfold RunsOp
      have tb0 := hR.blk (by first | exact B0.out | exact Blk.drew B0.out) (by simp)
      obtain ⟨c00, c01, c02, cl0⟩ := tb0.facts3
      clear tb0
      go_simp
      exact hK.out _ _ ⟨_, rfl, Only.refl _ _, rfl⟩
    · intro vals wr hR hp K hK
      dsimp only at hK ⊢
      obtain ⟨p0, -⟩ := hp
      replace p0 := p0 rfl
      dsimp only at p0
      rw [p0] at hK ⊢
      clear p0
      unfold RunsOp
      go_simp
      refine (strightr ho HR.out _).mono ?_
      rintro e w2 ⟨rfl, o2⟩
      exact hK.out _ _ ⟨_, rfl, o2, rfl⟩
    · intro vals wr hR hp K hK
      dsimp only at hK ⊢
      obtain ⟨p1, -⟩ := hp
      replace p1 := p1 rfl
      dsimp only at p1
      obtain p1 := p1
      rw [p1] at hK ⊢
      clear p1
      unfold RunsOp
      go_simp
      exact hK.out _ _ ⟨_, rfl, Only.refl _ _, rfl⟩
    · intro vals wr hR hp K hK
      dsimp only at hK ⊢
      obtain ⟨p2, -, -⟩ := hp
      replace p2 := p2 rfl
      dsimp only at p2
      rw [p2] at hK ⊢
      clear p2
      unfold RunsOp
      go_simp
      exact hK.out _ _ ⟨_, rfl, Only.refl _ _, rfl⟩
    · intro vals wr hR hp K hK
      dsimp only at hK ⊢
      obtain ⟨p3, -⟩ := hp
      replace p3 := p3 rfl
      dsimp only at p3
      rw [p3] at hK ⊢
      clear p3
      unfold RunsOp
      have tb0 := hR.blk (by first | exact B0.out | exact Blk.drew B0.out) (by simp)
      obtain ⟨c00, c01, c02, cl0⟩ := tb0.facts3
      clear tb0
      go_simp
      exact hK.out _ _ ⟨_, rfl, Only.refl _ _, rfl⟩
    · intro vals wr hR hp K hK
      dsimp only at hK ⊢
      obtain ⟨p3, -, -⟩ := hp
      replace p3 := p3 rfl
      dsimp only at p3
      rw [p3] at hK ⊢
      clear p3
      unfold RunsOp
      go_simp
      refine (stnever_any _).mono ?_
      rintro e w2 ⟨rfl, o2⟩
      exact hK.out _ _ ⟨_, rfl, o2, rfl⟩
    · intro vals wr hR hp K hK
      dsimp only at hK ⊢
      obtain ⟨p4, p5, p3, -⟩ := hp
      replace p4 := p4 rfl
      replace p5 := p5 rfl
      replace p3 := p3 rfl
      dsimp only at p4 p5 p3
      obtain p5 := p5
      rw [p4, p5, p3] at hK ⊢
      clear p4 p5 p3
      unfold RunsOp
      go_simp
      exact hK.out _ _ ⟨_, rfl, Only.refl _ _, rfl⟩
    · intro vals wr hR hp K hK
      dsimp only at hK ⊢
      obtain ⟨p3, p6, -⟩ := hp
      replace p3 := p3 rfl
      replace p6 := p6 rfl
      dsimp only at p3 p6
      rw [p3, p6] at hK ⊢
      clear p3 p6
      unfold RunsOp
      go_simp
      exact hK.out _ _ ⟨_, rfl, Only.refl _ _, rfl⟩
  intro vals w2 hR hF
  have f7 : vals 7 = .bool false := hF 7 (by decide)
  rw [f7]
  clear hF f7
  refine wpList_nil ?_
  have B0x := hR.blk (t := 27) (cs := #[.int .i64 s.1.1, .int .i64 s.1.2, .int .i64 s.2]) (g := w.heap.size) (by first | exact B0.out | exact Blk.drewN B0.out _ | exact Blk.drew B0.out) (by simp)
  have B1x := hR.blk (t := 27) (cs := #[.int .i64 0, .int .i64 0, .int .i64 0]) (g := w.heap.size + 1) (by first | exact B1.out | exact Blk.drewN B1.out _ | exact Blk.drew B1.out) (by simp)
  have O2x : Only [] w w2 := (by first | exact Only.trans O1.out hR (by simp) | exact Only.trans (Only.drewN O1.out _) hR (by simp) | exact Only.trans (Only.drew O1.out) hR (by simp))
  obtain ⟨B0c0, B0c1, B0c2, B0l⟩ := B0x.facts3
  obtain ⟨B1c0, B1c1, B1c2, B1l⟩ := B1x.facts3
  clear B0 B1 O1 hR
  have B0 := Lib.hid B0x; have B1 := Lib.hid B1x; have O2 := Lib.hid O2x
  clear B0x B1x O2x
  have fr0 := B1.out.frozen 0
  have fr1 := B1.out.frozen 1
  have fr2 := B1.out.frozen 2
  go_wp2_with (fail)
  exact bodyPost_ret (v := .tuple #[.agg #[.int .i64 s.1.1, .int .i64 s.1.2, .int .i64 (s.2 + 1)], .int .i64 0]) (by simp [results, Tryd.results19, go_sem, B1c0, B1c1, B1c2]) rfl ⟨rfl, only_three O2.out (by simp; try omega) (by simp; try omega) (by simp; try omega) _ _ _⟩

theorem next_any (s : St) (ho : s.ok) (w : World) : Calls Tryd.prog 19 #[.agg #[.int .i64 s.1.1, .int .i64 s.1.2, .int .i64 s.2]] w fun e w' => e = .returned (.tuple #[.agg #[.int .i64 (nextT s).1.1.1, .int .i64 (nextT s).1.1.2, .int .i64 (nextT s).1.2], .int .i64 (nextT s).2]) ∧ Only [] w w' := by
  unfold nextT
  by_cases hr : stR s = true
  · by_cases hn : s = ((1, 0), 0)
    · subst hn; rw [if_neg (fun h => h.2 rfl)]; exact next_n w
    · rw [if_pos ⟨hr, hn⟩]
      have hb := stR_bounds hr
      by_cases hc : s.2 = 1099511627776
      · rw [if_pos hc]; exact next_m s ho hr hn hc w
      · rw [if_neg hc]; exact next_k s ho hr hn hb.1 hb.2 hc w
  · rw [if_neg (fun h => hr h.1)]; exact next_w s ho (by simpa using hr) w
theorem nextr (s : St) (ho : s.ok) {u : St} {x : Int} (h : nextT s = (u, x)) (w : World) : Calls Tryd.prog 19 #[.agg #[.int .i64 s.1.1, .int .i64 s.1.2, .int .i64 s.2]] w fun e w' => e = .returned (.tuple #[.agg #[.int .i64 u.1.1, .int .i64 u.1.2, .int .i64 u.2], .int .i64 x]) ∧ Only [] w w' := by
  have := next_any s ho w
  rwa [h] at this

set_option maxHeartbeats 1000000 in
theorem after_w1 (s : St) (t : Tm) (ho : s.ok) (hr : stR s = false) (w : World) :
    Calls Tryd.prog 13 #[.agg #[.int .i64 s.1.1, .int .i64 s.1.2, .int .i64 s.2], .agg #[.int .i64 t.1, .int .i64 t.2]] w fun e w' => e = .returned (.tuple #[.agg #[.int .i64 0, .int .i64 0, .int .i64 0], .int .i64 1]) ∧ Only [] w w' := by
  have HR := Lib.hid hr
  clear hr
  have O0 := Lib.hid (Only.refl [] w)
  go_enter Tryd.func13, Tryd.ntmps13
  have B0 := Lib.hid ((Blk.alloc (Blk.alloc (by have h := Blk.new w 27 #[.int .i64 s.1.1, .int .i64 s.1.2, .int .i64 s.2]; simpa using h : Blk (w.alloc (.cells #[.int .i64 s.1.1, .int .i64 s.1.2, .int .i64 s.2] 27)) (w.heap.size) 27 #[.int .i64 s.1.1, .int .i64 s.1.2, .int .i64 s.2]) _) _) : Blk (((w.alloc (.cells #[.int .i64 s.1.1, .int .i64 s.1.2, .int .i64 s.2] 27)).alloc (.cells #[.int .i64 t.1, .int .i64 t.2] 23)).alloc (.cells #[.int .i64 0, .int .i64 0, .int .i64 0] 27)) (w.heap.size) 27 #[.int .i64 s.1.1, .int .i64 s.1.2, .int .i64 s.2])
  have B1 := Lib.hid ((Blk.alloc (by have h := Blk.new (w.alloc (.cells #[.int .i64 s.1.1, .int .i64 s.1.2, .int .i64 s.2] 27)) 23 #[.int .i64 t.1, .int .i64 t.2]; simpa using h : Blk ((w.alloc (.cells #[.int .i64 s.1.1, .int .i64 s.1.2, .int .i64 s.2] 27)).alloc (.cells #[.int .i64 t.1, .int .i64 t.2] 23)) (w.heap.size + 1) 23 #[.int .i64 t.1, .int .i64 t.2]) _) : Blk (((w.alloc (.cells #[.int .i64 s.1.1, .int .i64 s.1.2, .int .i64 s.2] 27)).alloc (.cells #[.int .i64 t.1, .int .i64 t.2] 23)).alloc (.cells #[.int .i64 0, .int .i64 0, .int .i64 0] 27)) (w.heap.size + 1) 23 #[.int .i64 t.1, .int .i64 t.2])
  have B2 := Lib.hid ((by have h := Blk.new ((w.alloc (.cells #[.int .i64 s.1.1, .int .i64 s.1.2, .int .i64 s.2] 27)).alloc (.cells #[.int .i64 t.1, .int .i64 t.2] 23)) 27 #[.int .i64 0, .int .i64 0, .int .i64 0]; simpa using h : Blk (((w.alloc (.cells #[.int .i64 s.1.1, .int .i64 s.1.2, .int .i64 s.2] 27)).alloc (.cells #[.int .i64 t.1, .int .i64 t.2] 23)).alloc (.cells #[.int .i64 0, .int .i64 0, .int .i64 0] 27)) (w.heap.size + 2) 27 #[.int .i64 0, .int .i64 0, .int .i64 0]) : Blk (((w.alloc (.cells #[.int .i64 s.1.1, .int .i64 s.1.2, .int .i64 s.2] 27)).alloc (.cells #[.int .i64 t.1, .int .i64 t.2] 23)).alloc (.cells #[.int .i64 0, .int .i64 0, .int .i64 0] 27)) (w.heap.size + 2) 27 #[.int .i64 0, .int .i64 0, .int .i64 0])
  have O1 := Lib.hid ((((O0.out.alloc _).alloc _).alloc _) : Only [] w (((w.alloc (.cells #[.int .i64 s.1.1, .int .i64 s.1.2, .int .i64 s.2] 27)).alloc (.cells #[.int .i64 t.1, .int .i64 t.2] 23)).alloc (.cells #[.int .i64 0, .int .i64 0, .int .i64 0] 27)))
  clear O0
  go_wp2_with (fail)
  refine wp_region_facts 13 [] (fr := ?fr) (tl := ?tl) (fun i v wv => match i with
    | 0 => v = .agg #[.int .i64 s.1.1, .int .i64 s.1.2, .int .i64 s.2]
    | 1 => v = .bool false
    | 2 => v = .bool true
    | 3 => v = .bool true
    | 4 => v = undef
    | 5 => v = undef
    | 6 => v = undef
    | 7 => v = .bool true
    | 8 => v = .bool true
    | 9 => v = undef
    | 10 => v = undef
    | 11 => v = undef
    | 12 => v = .bool true
    | _ => True) (by kernel_rfl) (by kernel_rfl) (by kernel_rfl) (by kernel_rfl) (by decide) ?htl ?hfr ?stab ?steps ?done
  case htl => simp only [List.drop_succ_cons, List.drop_zero]; rfl
  case hfr => intro vals; simp only [putAll, dstAt, Act.put, List.getElem?_toArray, List.getElem?_cons_zero, List.getElem?_cons_succ, Option.bind_some, List.setIfInBounds_toArray, List.set_cons_zero, List.set_cons_succ]; rfl
  case stab =>
    intro i v wa wb h
    try dsimp only
    split <;> first | exact id | fail
  case steps =>
    refine ⟨?_, ?_, ?_, ?_, ?_, ?_, ?_, ?_, ?_, ?_, ?_, ?_, ?_, trivial⟩
    · intro vals wr hR hp K hK
      dsimp only at hK ⊢
      clear hp
      unfold RunsOp
      have tb0 := hR.blk (by first | exact B0.out | exact Blk.drew B0.out) (by simp)
      obtain ⟨c00, c01, c02, cl0⟩ := tb0.facts3
      clear tb0
      go_simp
      exact hK.out _ _ ⟨_, rfl, Only.refl _ _, rfl⟩
    · intro vals wr hR hp K hK
      dsimp only at hK ⊢
      obtain ⟨p0, -⟩ := hp
      replace p0 := p0 rfl
      dsimp only at p0
      rw [p0] at hK ⊢
      clear p0
      unfold RunsOp
      go_simp
      refine (strightr ho HR.out _).mono ?_
      rintro e w2 ⟨rfl, o2⟩
      exact hK.out _ _ ⟨_, rfl, o2, rfl⟩
    · intro vals wr hR hp K hK
      dsimp only at hK ⊢
      obtain ⟨p1, -⟩ := hp
      replace p1 := p1 rfl
      dsimp only at p1
      obtain p1 := p1
      rw [p1] at hK ⊢
      clear p1
      unfold RunsOp
      go_simp
      exact hK.out _ _ ⟨_, rfl, Only.refl _ _, rfl⟩
    · intro vals wr hR hp K hK
      dsimp only at hK ⊢
      obtain ⟨p2, -, -⟩ := hp
      replace p2 := p2 rfl
      dsimp only at p2
      rw [p2] at hK ⊢
      clear p2
      unfold RunsOp
      go_simp
      exact hK.out _ _ ⟨_, rfl, Only.refl _ _, rfl⟩
    · intro vals wr hR hp K hK
      dsimp only at hK ⊢
      obtain ⟨p3, -⟩ := hp
      replace p3 := p3 rfl
      dsimp only at p3
      rw [p3] at hK ⊢
      clear p3
      unfold RunsOp
      have tb0 := hR.blk (by first | exact B0.out | exact Blk.drew B0.out) (by simp)
      obtain ⟨c00, c01, c02, cl0⟩ := tb0.facts3
      clear tb0
      go_simp
      exact hK.out _ _ ⟨_, rfl, Only.refl _ _, rfl⟩
    · intro vals wr hR hp K hK
      dsimp only at hK ⊢
      obtain ⟨p3, -, -⟩ := hp
      replace p3 := p3 rfl
      dsimp only at p3
      rw [p3] at hK ⊢
      clear p3
      unfold RunsOp
      go_simp
      exact hK.out _ _ ⟨_, rfl, Only.refl _ _, rfl⟩
    · intro vals wr hR hp K hK
      dsimp only at hK ⊢
      obtain ⟨p4, p5, p3, -⟩ := hp
      replace p4 := p4 rfl
      replace p5 := p5 rfl
      replace p3 := p3 rfl
      dsimp only at p4 p5 p3
      rw [p4, p5, p3] at hK ⊢
      clear p4 p5 p3
      unfold RunsOp
      go_simp
      exact hK.out _ _ ⟨_, rfl, Only.refl _ _, rfl⟩
    · intro vals wr hR hp K hK
      dsimp only at hK ⊢
      obtain ⟨p3, p6, -⟩ := hp
      replace p3 := p3 rfl
      replace p6 := p6 rfl
      dsimp only at p3 p6
      rw [p3, p6] at hK ⊢
      clear p3 p6
      unfold RunsOp
      go_simp
      exact hK.out _ _ ⟨_, rfl, Only.refl _ _, rfl⟩
    · intro vals wr hR hp K hK
      dsimp only at hK ⊢
      obtain ⟨p7, -, -⟩ := hp
      replace p7 := p7 rfl
      dsimp only at p7
      rw [p7] at hK ⊢
      clear p7
      unfold RunsOp
      go_simp
      exact hK.out _ _ ⟨_, rfl, Only.refl _ _, rfl⟩
    · intro vals wr hR hp K hK
      dsimp only at hK ⊢
      obtain ⟨p8, -⟩ := hp
      replace p8 := p8 rfl
      dsimp only at p8
      rw [p8] at hK ⊢
      clear p8
      unfold RunsOp
      have tb1 := hR.blk (by first | exact B1.out | exact Blk.drew B1.out) (by simp)
      obtain ⟨c10, c11, cl1⟩ := tb1.facts2
      clear tb1
      go_simp
      exact hK.out _ _ ⟨_, rfl, Only.refl _ _, rfl⟩
    · intro vals wr hR hp K hK
      dsimp only at hK ⊢
      obtain ⟨p9, p8, -, -⟩ := hp
      replace p9 := p9 rfl
      replace p8 := p8 rfl
      dsimp only at p9 p8
      rw [p9, p8] at hK ⊢
      clear p9 p8
      unfold RunsOp
      go_simp
      exact hK.out _ _ ⟨_, rfl, Only.refl _ _, rfl⟩
    · intro vals wr hR hp K hK
      dsimp only at hK ⊢
      obtain ⟨p10, p8, -⟩ := hp
      replace p10 := p10 rfl
      replace p8 := p8 rfl
      dsimp only at p10 p8
      rw [p10, p8] at hK ⊢
      clear p10 p8
      unfold RunsOp
      go_simp
      exact hK.out _ _ ⟨_, rfl, Only.refl _ _, rfl⟩
    · intro vals wr hR hp K hK
      dsimp only at hK ⊢
      obtain ⟨p8, p11, -⟩ := hp
      replace p8 := p8 rfl
      replace p11 := p11 rfl
      dsimp only at p8 p11
      rw [p8, p11] at hK ⊢
      clear p8 p11
      unfold RunsOp
      go_simp
      exact hK.out _ _ ⟨_, rfl, Only.refl _ _, rfl⟩
  intro vals w2 hR hF
  have f12 : vals 12 = .bool true := hF 12 (by decide)
  rw [f12]
  clear hF f12
  refine wpList_nil ?_
  have B0x := hR.blk (t := 27) (cs := #[.int .i64 s.1.1, .int .i64 s.1.2, .int .i64 s.2]) (g := w.heap.size) (by first | exact B0.out | exact Blk.drewN B0.out _ | exact Blk.drew B0.out) (by simp)
  have B1x := hR.blk (t := 23) (cs := #[.int .i64 t.1, .int .i64 t.2]) (g := w.heap.size + 1) (by first | exact B1.out | exact Blk.drewN B1.out _ | exact Blk.drew B1.out) (by simp)
  have B2x := hR.blk (t := 27) (cs := #[.int .i64 0, .int .i64 0, .int .i64 0]) (g := w.heap.size + 2) (by first | exact B2.out | exact Blk.drewN B2.out _ | exact Blk.drew B2.out) (by simp)
  have O2x : Only [] w w2 := (by first | exact Only.trans O1.out hR (by simp) | exact Only.trans (Only.drewN O1.out _) hR (by simp) | exact Only.trans (Only.drew O1.out) hR (by simp))
  obtain ⟨B0c0, B0c1, B0c2, B0l⟩ := B0x.facts3
  obtain ⟨B1c0, B1c1, B1l⟩ := B1x.facts2
  obtain ⟨B2c0, B2c1, B2c2, B2l⟩ := B2x.facts3
  clear B0 B1 B2 O1 hR
  have B0 := Lib.hid B0x; have B1 := Lib.hid B1x; have B2 := Lib.hid B2x; have O2 := Lib.hid O2x
  clear B0x B1x B2x O2x
  have fr0 := B2.out.frozen 0
  have fr1 := B2.out.frozen 1
  have fr2 := B2.out.frozen 2
  go_wp2_with (fail)
  exact bodyPost_ret (v := .tuple #[.agg #[.int .i64 0, .int .i64 0, .int .i64 0], .int .i64 1]) (by simp [results, Tryd.results13, go_sem, B2c0, B2c1, B2c2]) rfl ⟨rfl, only_three O2.out (by simp; try omega) (by simp; try omega) (by simp; try omega) _ _ _⟩

set_option maxHeartbeats 1000000 in
theorem after_w2 (t : Tm)  (w : World) :
    Calls Tryd.prog 13 #[.agg #[.int .i64 1, .int .i64 0, .int .i64 0], .agg #[.int .i64 t.1, .int .i64 t.2]] w fun e w' => e = .returned (.tuple #[.agg #[.int .i64 0, .int .i64 0, .int .i64 0], .int .i64 1]) ∧ Only [] w w' := by
  have hE := eq_st27T
  have O0 := Lib.hid (Only.refl [] w)
  go_enter Tryd.func13, Tryd.ntmps13
  have B0 := Lib.hid ((Blk.alloc (Blk.alloc (by have h := Blk.new w 27 #[.int .i64 1, .int .i64 0, .int .i64 0]; simpa using h : Blk (w.alloc (.cells #[.int .i64 1, .int .i64 0, .int .i64 0] 27)) (w.heap.size) 27 #[.int .i64 1, .int .i64 0, .int .i64 0]) _) _) : Blk (((w.alloc (.cells #[.int .i64 1, .int .i64 0, .int .i64 0] 27)).alloc (.cells #[.int .i64 t.1, .int .i64 t.2] 23)).alloc (.cells #[.int .i64 0, .int .i64 0, .int .i64 0] 27)) (w.heap.size) 27 #[.int .i64 1, .int .i64 0, .int .i64 0])
  have B1 := Lib.hid ((Blk.alloc (by have h := Blk.new (w.alloc (.cells #[.int .i64 1, .int .i64 0, .int .i64 0] 27)) 23 #[.int .i64 t.1, .int .i64 t.2]; simpa using h : Blk ((w.alloc (.cells #[.int .i64 1, .int .i64 0, .int .i64 0] 27)).alloc (.cells #[.int .i64 t.1, .int .i64 t.2] 23)) (w.heap.size + 1) 23 #[.int .i64 t.1, .int .i64 t.2]) _) : Blk (((w.alloc (.cells #[.int .i64 1, .int .i64 0, .int .i64 0] 27)).alloc (.cells #[.int .i64 t.1, .int .i64 t.2] 23)).alloc (.cells #[.int .i64 0, .int .i64 0, .int .i64 0] 27)) (w.heap.size + 1) 23 #[.int .i64 t.1, .int .i64 t.2])
  have B2 := Lib.hid ((by have h := Blk.new ((w.alloc (.cells #[.int .i64 1, .int .i64 0, .int .i64 0] 27)).alloc (.cells #[.int .i64 t.1, .int .i64 t.2] 23)) 27 #[.int .i64 0, .int .i64 0, .int .i64 0]; simpa using h : Blk (((w.alloc (.cells #[.int .i64 1, .int .i64 0, .int .i64 0] 27)).alloc (.cells #[.int .i64 t.1, .int .i64 t.2] 23)).alloc (.cells #[.int .i64 0, .int .i64 0, .int .i64 0] 27)) (w.heap.size + 2) 27 #[.int .i64 0, .int .i64 0, .int .i64 0]) : Blk (((w.alloc (.cells #[.int .i64 1, .int .i64 0, .int .i64 0] 27)).alloc (.cells #[.int .i64 t.1, .int .i64 t.2] 23)).alloc (.cells #[.int .i64 0, .int .i64 0, .int .i64 0] 27)) (w.heap.size + 2) 27 #[.int .i64 0, .int .i64 0, .int .i64 0])
  have O1 := Lib.hid ((((O0.out.alloc _).alloc _).alloc _) : Only [] w (((w.alloc (.cells #[.int .i64 1, .int .i64 0, .int .i64 0] 27)).alloc (.cells #[.int .i64 t.1, .int .i64 t.2] 23)).alloc (.cells #[.int .i64 0, .int .i64 0, .int .i64 0] 27)))
  clear O0
  go_wp2_with (fail)
  refine wp_region_facts 13 [] (fr := ?fr) (tl := ?tl) (fun i v wv => match i with
    | 0 => v = .agg #[.int .i64 1, .int .i64 0, .int .i64 0]
    | 1 => v = .bool true
    | 2 => v = .bool false
    | 3 => v = .bool false
    | 4 => v = .agg #[.int .i64 1, .int .i64 0, .int .i64 0]
    | 5 => v = .agg #[.int .i64 1, .int .i64 0, .int .i64 0]
    | 6 => v = .bool true
    | 7 => v = .bool true
    | 8 => v = .bool true
    | 9 => v = undef
    | 10 => v = undef
    | 11 => v = undef
    | 12 => v = .bool true
    | _ => True) (by kernel_rfl) (by kernel_rfl) (by kernel_rfl) (by kernel_rfl) (by decide) ?htl ?hfr ?stab ?steps ?done
  case htl => simp only [List.drop_succ_cons, List.drop_zero]; rfl
  case hfr => intro vals; simp only [putAll, dstAt, Act.put, List.getElem?_toArray, List.getElem?_cons_zero, List.getElem?_cons_succ, Option.bind_some, List.setIfInBounds_toArray, List.set_cons_zero, List.set_cons_succ]; rfl
  case stab =>
    intro i v wa wb h
    try dsimp only
    split <;> first | exact id | fail
  case steps =>
    refine ⟨?_, ?_, ?_, ?_, ?_, ?_, ?_, ?_, ?_, ?_, ?_, ?_, ?_, trivial⟩
    · intro vals wr hR hp K hK
      dsimp only at hK ⊢
      clear hp
      unfold RunsOp
      have tb0 := hR.blk (by first | exact B0.out | exact Blk.drew B0.out) (by simp)
      obtain ⟨c00, c01, c02, cl0⟩ := tb0.facts3
      clear tb0
      go_simp
      exact hK.out _ _ ⟨_, rfl, Only.refl _ _, rfl⟩
    · intro vals wr hR hp K hK
      dsimp only at hK ⊢
      obtain ⟨p0, -⟩ := hp
      replace p0 := p0 rfl
      dsimp only at p0
      rw [p0] at hK ⊢
      clear p0
      unfold RunsOp
      go_simp
      refine (strightr (s := ((1, 0), 0)) ⟨ok_never, by unfold I64; omega⟩ stR_never _).mono ?_
      rintro e w2 ⟨rfl, o2⟩
      exact hK.out _ _ ⟨_, rfl, o2, rfl⟩
    · intro vals wr hR hp K hK
      dsimp only at hK ⊢
      obtain ⟨p1, -⟩ := hp
      replace p1 := p1 rfl
      dsimp only at p1
      obtain p1 := p1
      rw [p1] at hK ⊢
      clear p1
      unfold RunsOp
      go_simp
      exact hK.out _ _ ⟨_, rfl, Only.refl _ _, rfl⟩
    · intro vals wr hR hp K hK
      dsimp only at hK ⊢
      obtain ⟨p2, -, -⟩ := hp
      replace p2 := p2 rfl
      dsimp only at p2
      rw [p2] at hK ⊢
      clear p2
      unfold RunsOp
      go_simp
      exact hK.out _ _ ⟨_, rfl, Only.refl _ _, rfl⟩
    · intro vals wr hR hp K hK
      dsimp only at hK ⊢
      obtain ⟨p3, -⟩ := hp
      replace p3 := p3 rfl
      dsimp only at p3
      rw [p3] at hK ⊢
      clear p3
      unfold RunsOp
      have tb0 := hR.blk (by first | exact B0.out | exact Blk.drew B0.out) (by simp)
      obtain ⟨c00, c01, c02, cl0⟩ := tb0.facts3
      clear tb0
      go_simp
      exact hK.out _ _ ⟨_, rfl, Only.refl _ _, rfl⟩
    · intro vals wr hR hp K hK
      dsimp only at hK ⊢
      obtain ⟨p3, -, -⟩ := hp
      replace p3 := p3 rfl
      dsimp only at p3
      rw [p3] at hK ⊢
      clear p3
      unfold RunsOp
      go_simp
      refine (stnever_any _).mono ?_
      rintro e w2 ⟨rfl, o2⟩
      exact hK.out _ _ ⟨_, rfl, o2, rfl⟩
    · intro vals wr hR hp K hK
      dsimp only at hK ⊢
      obtain ⟨p4, p5, p3, -⟩ := hp
      replace p4 := p4 rfl
      replace p5 := p5 rfl
      replace p3 := p3 rfl
      dsimp only at p4 p5 p3
      obtain p5 := p5
      rw [p4, p5, p3] at hK ⊢
      clear p4 p5 p3
      unfold RunsOp
      go_simp
      exact hK.out _ _ ⟨_, rfl, Only.refl _ _, rfl⟩
    · intro vals wr hR hp K hK
      dsimp only at hK ⊢
      obtain ⟨p3, p6, -⟩ := hp
      replace p3 := p3 rfl
      replace p6 := p6 rfl
      dsimp only at p3 p6
      rw [p3, p6] at hK ⊢
      clear p3 p6
      unfold RunsOp
      go_simp
      exact hK.out _ _ ⟨_, rfl, Only.refl _ _, rfl⟩
    · intro vals wr hR hp K hK
      dsimp only at hK ⊢
      obtain ⟨p7, -, -⟩ := hp
      replace p7 := p7 rfl
      dsimp only at p7
      rw [p7] at hK ⊢
      clear p7
      unfold RunsOp
      go_simp
      exact hK.out _ _ ⟨_, rfl, Only.refl _ _, rfl⟩
    · intro vals wr hR hp K hK
      dsimp only at hK ⊢
      obtain ⟨p8, -⟩ := hp
      replace p8 := p8 rfl
      dsimp only at p8
      rw [p8] at hK ⊢
      clear p8
      unfold RunsOp
      have tb1 := hR.blk (by first | exact B1.out | exact Blk.drew B1.out) (by simp)
      obtain ⟨c10, c11, cl1⟩ := tb1.facts2
      clear tb1
      go_simp
      exact hK.out _ _ ⟨_, rfl, Only.refl _ _, rfl⟩
    · intro vals wr hR hp K hK
      dsimp only at hK ⊢
      obtain ⟨p9, p8, -, -⟩ := hp
      replace p9 := p9 rfl
      replace p8 := p8 rfl
      dsimp only at p9 p8
      rw [p9, p8] at hK ⊢
      clear p9 p8
      unfold RunsOp
      go_simp
      exact hK.out _ _ ⟨_, rfl, Only.refl _ _, rfl⟩
    · intro vals wr hR hp K hK
      dsimp only at hK ⊢
      obtain ⟨p10, p8, -⟩ := hp
      replace p10 := p10 rfl
      replace p8 := p8 rfl
      dsimp only at p10 p8
      rw [p10, p8] at hK ⊢
      clear p10 p8
      unfold RunsOp
      go_simp
      exact hK.out _ _ ⟨_, rfl, Only.refl _ _, rfl⟩
    · intro vals wr hR hp K hK
      dsimp only at hK ⊢
      obtain ⟨p8, p11, -⟩ := hp
      replace p8 := p8 rfl
      replace p11 := p11 rfl
      dsimp only at p8 p11
      rw [p8, p11] at hK ⊢
      clear p8 p11
      unfold RunsOp
      go_simp
      exact hK.out _ _ ⟨_, rfl, Only.refl _ _, rfl⟩
  intro vals w2 hR hF
  have f12 : vals 12 = .bool true := hF 12 (by decide)
  rw [f12]
  clear hF f12
  refine wpList_nil ?_
  have B0x := hR.blk (t := 27) (cs := #[.int .i64 1, .int .i64 0, .int .i64 0]) (g := w.heap.size) (by first | exact B0.out | exact Blk.drewN B0.out _ | exact Blk.drew B0.out) (by simp)
  have B1x := hR.blk (t := 23) (cs := #[.int .i64 t.1, .int .i64 t.2]) (g := w.heap.size + 1) (by first | exact B1.out | exact Blk.drewN B1.out _ | exact Blk.drew B1.out) (by simp)
  have B2x := hR.blk (t := 27) (cs := #[.int .i64 0, .int .i64 0, .int .i64 0]) (g := w.heap.size + 2) (by first | exact B2.out | exact Blk.drewN B2.out _ | exact Blk.drew B2.out) (by simp)
  have O2x : Only [] w w2 := (by first | exact Only.trans O1.out hR (by simp) | exact Only.trans (Only.drewN O1.out _) hR (by simp) | exact Only.trans (Only.drew O1.out) hR (by simp))
  obtain ⟨B0c0, B0c1, B0c2, B0l⟩ := B0x.facts3
  obtain ⟨B1c0, B1c1, B1l⟩ := B1x.facts2
  obtain ⟨B2c0, B2c1, B2c2, B2l⟩ := B2x.facts3
  clear B0 B1 B2 O1 hR
  have B0 := Lib.hid B0x; have B1 := Lib.hid B1x; have B2 := Lib.hid B2x; have O2 := Lib.hid O2x
  clear B0x B1x B2x O2x
  have fr0 := B2.out.frozen 0
  have fr1 := B2.out.frozen 1
  have fr2 := B2.out.frozen 2
  go_wp2_with (fail)
  exact bodyPost_ret (v := .tuple #[.agg #[.int .i64 0, .int .i64 0, .int .i64 0], .int .i64 1]) (by simp [results, Tryd.results13, go_sem, B2c0, B2c1, B2c2]) rfl ⟨rfl, only_three O2.out (by simp; try omega) (by simp; try omega) (by simp; try omega) _ _ _⟩

set_option maxHeartbeats 1000000 in
theorem after_w3 (s : St) (t : Tm) (ho : s.ok) (hr : stR s = true) (hn : s ≠ ((1, 0), 0)) (to : t.ok) (ht : t.right = false) (w : World) :
    Calls Tryd.prog 13 #[.agg #[.int .i64 s.1.1, .int .i64 s.1.2, .int .i64 s.2], .agg #[.int .i64 t.1, .int .i64 t.2]] w fun e w' => e = .returned (.tuple #[.agg #[.int .i64 0, .int .i64 0, .int .i64 0], .int .i64 1]) ∧ Only [] w w' := by
  have HR := Lib.hid hr
  clear hr
  have hE := eq_st27F hn
  clear hn
  have HT := Lib.hid ht
  clear ht
  have O0 := Lib.hid (Only.refl [] w)
  go_enter Tryd.func13, Tryd.ntmps13
  have B0 := Lib.hid ((Blk.alloc (Blk.alloc (by have h := Blk.new w 27 #[.int .i64 s.1.1, .int .i64 s.1.2, .int .i64 s.2]; simpa using h : Blk (w.alloc (.cells #[.int .i64 s.1.1, .int .i64 s.1.2, .int .i64 s.2] 27)) (w.heap.size) 27 #[.int .i64 s.1.1, .int .i64 s.1.2, .int .i64 s.2]) _) _) : Blk (((w.alloc (.cells #[.int .i64 s.1.1, .int .i64 s.1.2, .int .i64 s.2] 27)).alloc (.cells #[.int .i64 t.1, .int .i64 t.2] 23)).alloc (.cells #[.int .i64 0, .int .i64 0, .int .i64 0] 27)) (w.heap.size) 27 #[.int .i64 s.1.1, .int .i64 s.1.2, .int .i64 s.2])
  have B1 := Lib.hid ((Blk.alloc (by have h := Blk.new (w.alloc (.cells #[.int .i64 s.1.1, .int .i64 s.1.2, .int .i64 s.2] 27)) 23 #[.int .i64 t.1, .int .i64 t.2]; simpa using h : Blk ((w.alloc (.cells #[.int .i64 s.1.1, .int .i64 s.1.2, .int .i64 s.2] 27)).alloc (.cells #[.int .i64 t.1, .int .i64 t.2] 23)) (w.heap.size + 1) 23 #[.int .i64 t.1, .int .i64 t.2]) _) : Blk (((w.alloc (.cells #[.int .i64 s.1.1, .int .i64 s.1.2, .int .i64 s.2] 27)).alloc (.cells #[.int .i64 t.1, .int .i64 t.2] 23)).alloc (.cells #[.int .i64 0, .int .i64 0, .int .i64 0] 27)) (w.heap.size + 1) 23 #[.int .i64 t.1, .int .i64 t.2])
  have B2 := Lib.hid ((by have h := Blk.new ((w.alloc (.cells #[.int .i64 s.1.1, .int .i64 s.1.2, .int .i64 s.2] 27)).alloc (.cells #[.int .i64 t.1, .int .i64 t.2] 23)) 27 #[.int .i64 0, .int .i64 0, .int .i64 0]; simpa using h : Blk (((w.alloc (.cells #[.int .i64 s.1.1, .int .i64 s.1.2, .int .i64 s.2] 27)).alloc (.cells #[.int .i64 t.1, .int .i64 t.2] 23)).alloc (.cells #[.int .i64 0, .int .i64 0, .int .i64 0] 27)) (w.heap.size + 2) 27 #[.int .i64 0, .int .i64 0, .int .i64 0]) : Blk (((w.alloc (.cells #[.int .i64 s.1.1, .int .i64 s.1.2, .int .i64 s.2] 27)).alloc (.cells #[.int .i64 t.1, .int .i64 t.2] 23)).alloc (.cells #[.int .i64 0, .int .i64 0, .int .i64 0] 27)) (w.heap.size + 2) 27 #[.int .i64 0, .int .i64 0, .int .i64 0])
  have O1 := Lib.hid ((((O0.out.alloc _).alloc _).alloc _) : Only [] w (((w.alloc (.cells #[.int .i64 s.1.1, .int .i64 s.1.2, .int .i64 s.2] 27)).alloc (.cells #[.int .i64 t.1, .int .i64 t.2] 23)).alloc (.cells #[.int .i64 0, .int .i64 0, .int .i64 0] 27)))
  clear O0
  go_wp2_with (fail)
  refine wp_region_facts 13 [] (fr := ?fr) (tl := ?tl) (fun i v wv => match i with
    | 0 => v = .agg #[.int .i64 s.1.1, .int .i64 s.1.2, .int .i64 s.2]
    | 1 => v = .bool true
    | 2 => v = .bool false
    | 3 => v = .bool false
    | 4 => v = .agg #[.int .i64 s.1.1, .int .i64 s.1.2, .int .i64 s.2]
    | 5 => v = .agg #[.int .i64 1, .int .i64 0, .int .i64 0]
    | 6 => v = .bool false
    | 7 => v = .bool false
    | 8 => v = .bool false
    | 9 => v = .agg #[.int .i64 t.1, .int .i64 t.2]
    | 10 => v = .bool false
    | 11 => v = .bool true
    | 12 => v = .bool true
    | _ => True) (by kernel_rfl) (by kernel_rfl) (by kernel_rfl) (by kernel_rfl) (by decide) ?htl ?hfr ?stab ?steps ?done
  case htl => simp only [List.drop_succ_cons, List.drop_zero]; rfl
  case hfr => intro vals; simp only [putAll, dstAt, Act.put, List.getElem?_toArray, List.getElem?_cons_zero, List.getElem?_cons_succ, Option.bind_some, List.setIfInBounds_toArray, List.set_cons_zero, List.set_cons_succ]; rfl
  case stab =>
    intro i v wa wb h
    try dsimp only
    split <;> first | exact id | fail
  case steps =>
    refine ⟨?_, ?_, ?_, ?_, ?_, ?_, ?_, ?_, ?_, ?_, ?_, ?_, ?_, trivial⟩
    · intro vals wr hR hp K hK
      dsimp only at hK ⊢
      clear hp
      unfold RunsOp
      have tb0 := hR.blk (by first | exact B0.out | exact Blk.drew B0.out) (by simp)
      obtain ⟨c00, c01, c02, cl0⟩ := tb0.facts3
      clear tb0
      go_simp
      exact hK.out _ _ ⟨_, rfl, Only.refl _ _, rfl⟩
    · intro vals wr hR hp K hK
      dsimp only at hK ⊢
      obtain ⟨p0, -⟩ := hp
      replace p0 := p0 rfl
      dsimp only at p0
      rw [p0] at hK ⊢
      clear p0
      unfold RunsOp
      go_simp
      refine (strightr ho HR.out _).mono ?_
      rintro e w2 ⟨rfl, o2⟩
      exact hK.out _ _ ⟨_, rfl, o2, rfl⟩
    · intro vals wr hR hp K hK
      dsimp only at hK ⊢
      obtain ⟨p1, -⟩ := hp
      replace p1 := p1 rfl
      dsimp only at p1
      obtain p1 := p1
      rw [p1] at hK ⊢
      clear p1
      unfold RunsOp
      go_simp
      exact hK.out _ _ ⟨_, rfl, Only.refl _ _, rfl⟩
    · intro vals wr hR hp K hK
      dsimp only at hK ⊢
      obtain ⟨p2, -, -⟩ := hp
      replace p2 := p2 rfl
      dsimp only at p2
      rw [p2] at hK ⊢
      clear p2
      unfold RunsOp
      go_simp
      exact hK.out _ _ ⟨_, rfl, Only.refl _ _, rfl⟩
    · intro vals wr hR hp K hK
      dsimp only at hK ⊢
      obtain ⟨p3, -⟩ := hp
      replace p3 := p3 rfl
      dsimp only at p3
      rw [p3] at hK ⊢
      clear p3
      unfold RunsOp
      have tb0 := hR.blk (by first | exact B0.out | exact Blk.drew B0.out) (by simp)
      obtain ⟨c00, c01, c02, cl0⟩ := tb0.facts3
      clear tb0
      go_simp
      exact hK.out _ _ ⟨_, rfl, Only.refl _ _, rfl⟩
    · intro vals wr hR hp K hK
      dsimp only at hK ⊢
      obtain ⟨p3, -, -⟩ := hp
      replace p3 := p3 rfl
      dsimp only at p3
      rw [p3] at hK ⊢
      clear p3
      unfold RunsOp
      go_simp
      refine (stnever_any _).mono ?_
      rintro e w2 ⟨rfl, o2⟩
      exact hK.out _ _ ⟨_, rfl, o2, rfl⟩
    · intro vals wr hR hp K hK
      dsimp only at hK ⊢
      obtain ⟨p4, p5, p3, -⟩ := hp
      replace p4 := p4 rfl
      replace p5 := p5 rfl
      replace p3 := p3 rfl
      dsimp only at p4 p5 p3
      obtain p5 := p5
      rw [p4, p5, p3] at hK ⊢
      clear p4 p5 p3
      unfold RunsOp
      go_simp
      exact hK.out _ _ ⟨_, rfl, Only.refl _ _, rfl⟩
    · intro vals wr hR hp K hK
      dsimp only at hK ⊢
      obtain ⟨p3, p6, -⟩ := hp
      replace p3 := p3 rfl
      replace p6 := p6 rfl
      dsimp only at p3 p6
      rw [p3, p6] at hK ⊢
      clear p3 p6
      unfold RunsOp
      go_simp
      exact hK.out _ _ ⟨_, rfl, Only.refl _ _, rfl⟩
    · intro vals wr hR hp K hK
      dsimp only at hK ⊢
      obtain ⟨p7, -, -⟩ := hp
      replace p7 := p7 rfl
      dsimp only at p7
      rw [p7] at hK ⊢
      clear p7
      unfold RunsOp
      go_simp
      exact hK.out _ _ ⟨_, rfl, Only.refl _ _, rfl⟩
    · intro vals wr hR hp K hK
      dsimp only at hK ⊢
      obtain ⟨p8, -⟩ := hp
      replace p8 := p8 rfl
      dsimp only at p8
      rw [p8] at hK ⊢
      clear p8
      unfold RunsOp
      have tb1 := hR.blk (by first | exact B1.out | exact Blk.drew B1.out) (by simp)
      obtain ⟨c10, c11, cl1⟩ := tb1.facts2
      clear tb1
      go_simp
      exact hK.out _ _ ⟨_, rfl, Only.refl _ _, rfl⟩
    · intro vals wr hR hp K hK
      dsimp only at hK ⊢
      obtain ⟨p9, p8, -, -⟩ := hp
      replace p9 := p9 rfl
      replace p8 := p8 rfl
      dsimp only at p9 p8
      rw [p9, p8] at hK ⊢
      clear p9 p8
      unfold RunsOp
      go_simp
      refine (rightr to HT.out _).mono ?_
      rintro e w2 ⟨rfl, o2⟩
      exact hK.out _ _ ⟨_, rfl, o2, rfl⟩
    · intro vals wr hR hp K hK
      dsimp only at hK ⊢
      obtain ⟨p10, p8, -⟩ := hp
      replace p10 := p10 rfl
      replace p8 := p8 rfl
      dsimp only at p10 p8
      obtain p10 := p10
      rw [p10, p8] at hK ⊢
      clear p10 p8
      unfold RunsOp
      go_simp
      exact hK.out _ _ ⟨_, rfl, Only.refl _ _, rfl⟩
    · intro vals wr hR hp K hK
      dsimp only at hK ⊢
      obtain ⟨p8, p11, -⟩ := hp
      replace p8 := p8 rfl
      replace p11 := p11 rfl
      dsimp only at p8 p11
      rw [p8, p11] at hK ⊢
      clear p8 p11
      unfold RunsOp
      go_simp
      exact hK.out _ _ ⟨_, rfl, Only.refl _ _, rfl⟩
  intro vals w2 hR hF
  have f12 : vals 12 = .bool true := hF 12 (by decide)
  rw [f12]
  clear hF f12
  refine wpList_nil ?_
  have B0x := hR.blk (t := 27) (cs := #[.int .i64 s.1.1, .int .i64 s.1.2, .int .i64 s.2]) (g := w.heap.size) (by first | exact B0.out | exact Blk.drewN B0.out _ | exact Blk.drew B0.out) (by simp)
  have B1x := hR.blk (t := 23) (cs := #[.int .i64 t.1, .int .i64 t.2]) (g := w.heap.size + 1) (by first | exact B1.out | exact Blk.drewN B1.out _ | exact Blk.drew B1.out) (by simp)
  have B2x := hR.blk (t := 27) (cs := #[.int .i64 0, .int .i64 0, .int .i64 0]) (g := w.heap.size + 2) (by first | exact B2.out | exact Blk.drewN B2.out _ | exact Blk.drew B2.out) (by simp)
  have O2x : Only [] w w2 := (by first | exact Only.trans O1.out hR (by simp) | exact Only.trans (Only.drewN O1.out _) hR (by simp) | exact Only.trans (Only.drew O1.out) hR (by simp))
  obtain ⟨B0c0, B0c1, B0c2, B0l⟩ := B0x.facts3
  obtain ⟨B1c0, B1c1, B1l⟩ := B1x.facts2
  obtain ⟨B2c0, B2c1, B2c2, B2l⟩ := B2x.facts3
  clear B0 B1 B2 O1 hR
  have B0 := Lib.hid B0x; have B1 := Lib.hid B1x; have B2 := Lib.hid B2x; have O2 := Lib.hid O2x
  clear B0x B1x B2x O2x
  have fr0 := B2.out.frozen 0
  have fr1 := B2.out.frozen 1
  have fr2 := B2.out.frozen 2
  go_wp2_with (fail)
  exact bodyPost_ret (v := .tuple #[.agg #[.int .i64 0, .int .i64 0, .int .i64 0], .int .i64 1]) (by simp [results, Tryd.results13, go_sem, B2c0, B2c1, B2c2]) rfl ⟨rfl, only_three O2.out (by simp; try omega) (by simp; try omega) (by simp; try omega) _ _ _⟩

set_option maxHeartbeats 1000000 in
theorem after_nv (s : St) (ho : s.ok) (hr : stR s = true) (hn : s ≠ ((1, 0), 0)) (w : World) :
    Calls Tryd.prog 13 #[.agg #[.int .i64 s.1.1, .int .i64 s.1.2, .int .i64 s.2], .agg #[.int .i64 1, .int .i64 0]] w fun e w' => e = .returned (.tuple #[.agg #[.int .i64 1, .int .i64 0, .int .i64 0], .int .i64 0]) ∧ Only [] w w' := by
  have HR := Lib.hid hr
  clear hr
  have hE := eq_st27F hn
  clear hn
  have hEN := eq_never
  have O0 := Lib.hid (Only.refl [] w)
  go_enter Tryd.func13, Tryd.ntmps13
  have B0 := Lib.hid ((Blk.alloc (Blk.alloc (by have h := Blk.new w 27 #[.int .i64 s.1.1, .int .i64 s.1.2, .int .i64 s.2]; simpa using h : Blk (w.alloc (.cells #[.int .i64 s.1.1, .int .i64 s.1.2, .int .i64 s.2] 27)) (w.heap.size) 27 #[.int .i64 s.1.1, .int .i64 s.1.2, .int .i64 s.2]) _) _) : Blk (((w.alloc (.cells #[.int .i64 s.1.1, .int .i64 s.1.2, .int .i64 s.2] 27)).alloc (.cells #[.int .i64 1, .int .i64 0] 23)).alloc (.cells #[.int .i64 0, .int .i64 0, .int .i64 0] 27)) (w.heap.size) 27 #[.int .i64 s.1.1, .int .i64 s.1.2, .int .i64 s.2])
  have B1 := Lib.hid ((Blk.alloc (by have h := Blk.new (w.alloc (.cells #[.int .i64 s.1.1, .int .i64 s.1.2, .int .i64 s.2] 27)) 23 #[.int .i64 1, .int .i64 0]; simpa using h : Blk ((w.alloc (.cells #[.int .i64 s.1.1, .int .i64 s.1.2, .int .i64 s.2] 27)).alloc (.cells #[.int .i64 1, .int .i64 0] 23)) (w.heap.size + 1) 23 #[.int .i64 1, .int .i64 0]) _) : Blk (((w.alloc (.cells #[.int .i64 s.1.1, .int .i64 s.1.2, .int .i64 s.2] 27)).alloc (.cells #[.int .i64 1, .int .i64 0] 23)).alloc (.cells #[.int .i64 0, .int .i64 0, .int .i64 0] 27)) (w.heap.size + 1) 23 #[.int .i64 1, .int .i64 0])
  have B2 := Lib.hid ((by have h := Blk.new ((w.alloc (.cells #[.int .i64 s.1.1, .int .i64 s.1.2, .int .i64 s.2] 27)).alloc (.cells #[.int .i64 1, .int .i64 0] 23)) 27 #[.int .i64 0, .int .i64 0, .int .i64 0]; simpa using h : Blk (((w.alloc (.cells #[.int .i64 s.1.1, .int .i64 s.1.2, .int .i64 s.2] 27)).alloc (.cells #[.int .i64 1, .int .i64 0] 23)).alloc (.cells #[.int .i64 0, .int .i64 0, .int .i64 0] 27)) (w.heap.size + 2) 27 #[.int .i64 0, .int .i64 0, .int .i64 0]) : Blk (((w.alloc (.cells #[.int .i64 s.1.1, .int .i64 s.1.2, .int .i64 s.2] 27)).alloc (.cells #[.int .i64 1, .int .i64 0] 23)).alloc (.cells #[.int .i64 0, .int .i64 0, .int .i64 0] 27)) (w.heap.size + 2) 27 #[.int .i64 0, .int .i64 0, .int .i64 0])
  have O1 := Lib.hid ((((O0.out.alloc _).alloc _).alloc _) : Only [] w (((w.alloc (.cells #[.int .i64 s.1.1, .int .i64 s.1.2, .int .i64 s.2] 27)).alloc (.cells #[.int .i64 1, .int .i64 0] 23)).alloc (.cells #[.int .i64 0, .int .i64 0, .int .i64 0] 27)))
  clear O0
  go_wp2_with (fail)
  refine wp_region_facts 13 [] (fr := ?fr) (tl := ?tl) (fun i v wv => match i with
    | 0 => v = .agg #[.int .i64 s.1.1, .int .i64 s.1.2, .int .i64 s.2]
    | 1 => v = .bool true
    | 2 => v = .bool false
    | 3 => v = .bool false
    | 4 => v = .agg #[.int .i64 s.1.1, .int .i64 s.1.2, .int .i64 s.2]
    | 5 => v = .agg #[.int .i64 1, .int .i64 0, .int .i64 0]
    | 6 => v = .bool false
    | 7 => v = .bool false
    | 8 => v = .bool false
    | 9 => v = .agg #[.int .i64 1, .int .i64 0]
    | 10 => v = .bool true
    | 11 => v = .bool false
    | 12 => v = .bool false
    | _ => True) (by kernel_rfl) (by kernel_rfl) (by kernel_rfl) (by kernel_rfl) (by decide) ?htl ?hfr ?stab ?steps ?done
  case htl => simp only [List.drop_succ_cons, List.drop_zero]; rfl
  case hfr => intro vals; simp only [putAll, dstAt, Act.put, List.getElem?_toArray, List.getElem?_cons_zero, List.getElem?_cons_succ, Option.bind_some, List.setIfInBounds_toArray, List.set_cons_zero, List.set_cons_succ]; rfl
  case stab =>
    intro i v wa wb h
    try dsimp only
    split <;> first | exact id | fail
  case steps =>
    refine ⟨?_, ?_, ?_, ?_, ?_, ?_, ?_, ?_, ?_, ?_, ?_, ?_, ?_, trivial⟩
    · intro vals wr hR hp K hK
      dsimp only at hK ⊢
      clear hp
      unfold RunsOp
      have tb0 := hR.blk (by first | exact B0.out | exact Blk.drew B0.out) (by simp)
      obtain ⟨c00, c01, c02, cl0⟩ := tb0.facts3
      clear tb0
      go_simp
      exact hK.out _ _ ⟨_, rfl, Only.refl _ _, rfl⟩
    · intro vals wr hR hp K hK
      dsimp only at hK ⊢
      obtain ⟨p0, -⟩ := hp
      replace p0 := p0 rfl
      dsimp only at p0
      rw [p0] at hK ⊢
      clear p0
      unfold RunsOp
      go_simp
      refine (strightr ho HR.out _).mono ?_
      rintro e w2 ⟨rfl, o2⟩
      exact hK.out _ _ ⟨_, rfl, o2, rfl⟩
    · intro vals wr hR hp K hK
      dsimp only at hK ⊢
      obtain ⟨p1, -⟩ := hp
      replace p1 := p1 rfl
      dsimp only at p1
      obtain p1 := p1
      rw [p1] at hK ⊢
      clear p1
      unfold RunsOp
      go_simp
      exact hK.out _ _ ⟨_, rfl, Only.refl _ _, rfl⟩
    · intro vals wr hR hp K hK
      dsimp only at hK ⊢
      obtain ⟨p2, -, -⟩ := hp
      replace p2 := p2 rfl
      dsimp only at p2
      rw [p2] at hK ⊢
      clear p2
      unfold RunsOp
      go_simp
      exact hK.out _ _ ⟨_, rfl, Only.refl _ _, rfl⟩
    · intro vals wr hR hp K hK
      dsimp only at hK ⊢
      obtain ⟨p3, -⟩ := hp
      replace p3 := p3 rfl
      dsimp only at p3
      rw [p3] at hK ⊢
      clear p3
      unfold RunsOp
      have tb0 := hR.blk (by first | exact B0.out | exact Blk.drew B0.out) (by simp)
      obtain ⟨c00, c01, c02, cl0⟩ := tb0.facts3
      clear tb0
      go_simp
      exact hK.out _ _ ⟨_, rfl, Only.refl _ _, rfl⟩
    · intro vals wr hR hp K hK
      dsimp only at hK ⊢
      obtain ⟨p3, -, -⟩ := hp
      replace p3 := p3 rfl
      dsimp only at p3
      rw [p3] at hK ⊢
      clear p3
      unfold RunsOp
      go_simp
      refine (stnever_any _).mono ?_
      rintro e w2 ⟨rfl, o2⟩
      exact hK.out _ _ ⟨_, rfl, o2, rfl⟩
    · intro vals wr hR hp K hK
      dsimp only at hK ⊢
      obtain ⟨p4, p5, p3, -⟩ := hp
      replace p4 := p4 rfl
      replace p5 := p5 rfl
      replace p3 := p3 rfl
      dsimp only at p4 p5 p3
      obtain p5 := p5
      rw [p4, p5, p3] at hK ⊢
      clear p4 p5 p3
      unfold RunsOp
      go_simp
      exact hK.out _ _ ⟨_, rfl, Only.refl _ _, rfl⟩
    · intro vals wr hR hp K hK
      dsimp only at hK ⊢
      obtain ⟨p3, p6, -⟩ := hp
      replace p3 := p3 rfl
      replace p6 := p6 rfl
      dsimp only at p3 p6
      rw [p3, p6] at hK ⊢
      clear p3 p6
      unfold RunsOp
      go_simp
      exact hK.out _ _ ⟨_, rfl, Only.refl _ _, rfl⟩
    · intro vals wr hR hp K hK
      dsimp only at hK ⊢
      obtain ⟨p7, -, -⟩ := hp
      replace p7 := p7 rfl
      dsimp only at p7
      rw [p7] at hK ⊢
      clear p7
      unfold RunsOp
      go_simp
      exact hK.out _ _ ⟨_, rfl, Only.refl _ _, rfl⟩
    · intro vals wr hR hp K hK
      dsimp only at hK ⊢
      obtain ⟨p8, -⟩ := hp
      replace p8 := p8 rfl
      dsimp only at p8
      rw [p8] at hK ⊢
      clear p8
      unfold RunsOp
      have tb1 := hR.blk (by first | exact B1.out | exact Blk.drew B1.out) (by simp)
      obtain ⟨c10, c11, cl1⟩ := tb1.facts2
      clear tb1
      go_simp
      exact hK.out _ _ ⟨_, rfl, Only.refl _ _, rfl⟩
    · intro vals wr hR hp K hK
      dsimp only at hK ⊢
      obtain ⟨p9, p8, -, -⟩ := hp
      replace p9 := p9 rfl
      replace p8 := p8 rfl
      dsimp only at p9 p8
      rw [p9, p8] at hK ⊢
      clear p9 p8
      unfold RunsOp
      go_simp
      refine (rightnv _).mono ?_
      rintro e w2 ⟨rfl, o2⟩
      exact hK.out _ _ ⟨_, rfl, o2, rfl⟩
    · intro vals wr hR hp K hK
      dsimp only at hK ⊢
      obtain ⟨p10, p8, -⟩ := hp
      replace p10 := p10 rfl
      replace p8 := p8 rfl
      dsimp only at p10 p8
      obtain p10 := p10
      rw [p10, p8] at hK ⊢
      clear p10 p8
      unfold RunsOp
      go_simp
      exact hK.out _ _ ⟨_, rfl, Only.refl _ _, rfl⟩
    · intro vals wr hR hp K hK
      dsimp only at hK ⊢
      obtain ⟨p8, p11, -⟩ := hp
      replace p8 := p8 rfl
      replace p11 := p11 rfl
      dsimp only at p8 p11
      rw [p8, p11] at hK ⊢
      clear p8 p11
      unfold RunsOp
      go_simp
      exact hK.out _ _ ⟨_, rfl, Only.refl _ _, rfl⟩
  intro vals w2 hR hF
  have f12 : vals 12 = .bool false := hF 12 (by decide)
  rw [f12]
  clear hF f12
  refine wpList_nil ?_
  have B0x := hR.blk (t := 27) (cs := #[.int .i64 s.1.1, .int .i64 s.1.2, .int .i64 s.2]) (g := w.heap.size) (by first | exact B0.out | exact Blk.drewN B0.out _ | exact Blk.drew B0.out) (by simp)
  have B1x := hR.blk (t := 23) (cs := #[.int .i64 1, .int .i64 0]) (g := w.heap.size + 1) (by first | exact B1.out | exact Blk.drewN B1.out _ | exact Blk.drew B1.out) (by simp)
  have B2x := hR.blk (t := 27) (cs := #[.int .i64 0, .int .i64 0, .int .i64 0]) (g := w.heap.size + 2) (by first | exact B2.out | exact Blk.drewN B2.out _ | exact Blk.drew B2.out) (by simp)
  have O2x : Only [] w w2 := (by first | exact Only.trans O1.out hR (by simp) | exact Only.trans (Only.drewN O1.out _) hR (by simp) | exact Only.trans (Only.drew O1.out) hR (by simp))
  obtain ⟨B0c0, B0c1, B0c2, B0l⟩ := B0x.facts3
  obtain ⟨B1c0, B1c1, B1l⟩ := B1x.facts2
  obtain ⟨B2c0, B2c1, B2c2, B2l⟩ := B2x.facts3
  clear B0 B1 B2 O1 hR
  have B0 := Lib.hid B0x; have B1 := Lib.hid B1x; have B2 := Lib.hid B2x; have O2 := Lib.hid O2x
  clear B0x B1x B2x O2x
  go_wp2_with (fail)
  refine wp_region_facts 3 [] (fr := ?frc) (tl := ?tlc) (fun i v wv => match i with
    | 0 => v = .agg #[.int .i64 1, .int .i64 0]
    | 1 => v = .agg #[.int .i64 1, .int .i64 0]
    | 2 => v = .bool true
    | _ => True) (by kernel_rfl) (by kernel_rfl) (by kernel_rfl) (by kernel_rfl) (by decide) ?htlc ?hfrc ?stabc ?stepsc ?donec
  case htlc => simp only [List.drop_succ_cons, List.drop_zero]; rfl
  case hfrc => intro vals; simp only [putAll, dstAt, Act.put, List.getElem?_toArray, List.getElem?_cons_zero, List.getElem?_cons_succ, Option.bind_some, List.setIfInBounds_toArray, List.set_cons_zero, List.set_cons_succ]; rfl
  case stabc =>
    intro i v wa wb h
    try dsimp only
    split <;> first | exact id | fail
  case stepsc =>
    refine ⟨?_, ?_, ?_, trivial⟩
    · intro vals wr hR hp K hK
      dsimp only at hK ⊢
      clear hp
      unfold RunsOp
      have tb1 := hR.blk (by first | exact B1.out | exact Blk.drew B1.out) (by simp)
      obtain ⟨c10, c11, cl1⟩ := tb1.facts2
      clear tb1
      go_simp
      exact hK.out _ _ ⟨_, rfl, Only.refl _ _, rfl⟩
    · intro vals wr hR hp K hK
      dsimp only at hK ⊢
      clear hp
      unfold RunsOp
      go_simp
      refine (never_any _).mono ?_
      rintro e w2 ⟨rfl, o2⟩
      exact hK.out _ _ ⟨_, rfl, o2, rfl⟩
    · intro vals wr hR hp K hK
      dsimp only at hK ⊢
      obtain ⟨p0, p1, -⟩ := hp
      replace p0 := p0 rfl
      replace p1 := p1 rfl
      dsimp only at p0 p1
      obtain p1 := p1
      rw [p0, p1] at hK ⊢
      clear p0 p1
      unfold RunsOp
      go_simp
      exact hK.out _ _ ⟨_, rfl, Only.refl _ _, rfl⟩
  intro vals w3 hR hF
  have f2 : vals 2 = .bool true := hF 2 (by decide)
  rw [f2]
  clear hF f2
  refine wpList_nil ?_
  have B0x := hR.blk (t := 27) (cs := #[.int .i64 s.1.1, .int .i64 s.1.2, .int .i64 s.2]) (g := w.heap.size) (by first | exact B0.out | exact Blk.drewN B0.out _ | exact Blk.drew B0.out) (by simp)
  have B1x := hR.blk (t := 23) (cs := #[.int .i64 1, .int .i64 0]) (g := w.heap.size + 1) (by first | exact B1.out | exact Blk.drewN B1.out _ | exact Blk.drew B1.out) (by simp)
  have B2x := hR.blk (t := 27) (cs := #[.int .i64 0, .int .i64 0, .int .i64 0]) (g := w.heap.size + 2) (by first | exact B2.out | exact Blk.drewN B2.out _ | exact Blk.drew B2.out) (by simp)
  have O3x : Only [] w w3 := (by first | exact Only.trans O2.out hR (by simp) | exact Only.trans (Only.drewN O2.out _) hR (by simp) | exact Only.trans (Only.drew O2.out) hR (by simp))
  obtain ⟨B0c0, B0c1, B0c2, B0l⟩ := B0x.facts3
  obtain ⟨B1c0, B1c1, B1l⟩ := B1x.facts2
  obtain ⟨B2c0, B2c1, B2c2, B2l⟩ := B2x.facts3
  clear B0 B1 B2 O2 hR
  have B0 := Lib.hid B0x; have B1 := Lib.hid B1x; have B2 := Lib.hid B2x; have O3 := Lib.hid O3x
  clear B0x B1x B2x O3x
  go_wp2_with (fail)
  refine (stnever_any _).mono ?_
  rintro e w4 ⟨rfl, o⟩
  have B0x := o.blk (t := 27) (cs := #[.int .i64 s.1.1, .int .i64 s.1.2, .int .i64 s.2]) (g := w.heap.size) (by first | exact B0.out | exact Blk.drewN B0.out _ | exact Blk.drew B0.out) (by simp)
  have B1x := o.blk (t := 23) (cs := #[.int .i64 1, .int .i64 0]) (g := w.heap.size + 1) (by first | exact B1.out | exact Blk.drewN B1.out _ | exact Blk.drew B1.out) (by simp)
  have B2x := o.blk (t := 27) (cs := #[.int .i64 0, .int .i64 0, .int .i64 0]) (g := w.heap.size + 2) (by first | exact B2.out | exact Blk.drewN B2.out _ | exact Blk.drew B2.out) (by simp)
  have O4x : Only [] w w4 := (by first | exact Only.trans O3.out o (by simp) | exact Only.trans (Only.drewN O3.out _) o (by simp) | exact Only.trans (Only.drew O3.out) o (by simp))
  obtain ⟨B0c0, B0c1, B0c2, B0l⟩ := B0x.facts3
  obtain ⟨B1c0, B1c1, B1l⟩ := B1x.facts2
  obtain ⟨B2c0, B2c1, B2c2, B2l⟩ := B2x.facts3
  clear B0 B1 B2 O3 o
  have B0 := Lib.hid B0x; have B1 := Lib.hid B1x; have B2 := Lib.hid B2x; have O4 := Lib.hid O4x
  clear B0x B1x B2x O4x
  have fr0 := B2.out.frozen 0
  have fr1 := B2.out.frozen 1
  have fr2 := B2.out.frozen 2
  go_wp2_with (fail)
  exact bodyPost_ret (v := .tuple #[.agg #[.int .i64 1, .int .i64 0, .int .i64 0], .int .i64 0]) (by simp [results, Tryd.results13, go_sem, B2c0, B2c1, B2c2]) rfl ⟨rfl, only_three O4.out (by simp; try omega) (by simp; try omega) (by simp; try omega) _ _ _⟩

set_option maxHeartbeats 1000000 in
theorem after_nx (s : St) (t : Tm) (ho : s.ok) (hr : stR s = true) (hn : s ≠ ((1, 0), 0)) (to : t.ok) (ht : t.right = true) (hq : t ≠ (1, 0)) (h0 : t.1 = 0) {u : St} {x : Int} (hu : nextT s = (u, x)) (w : World) :
    Calls Tryd.prog 13 #[.agg #[.int .i64 s.1.1, .int .i64 s.1.2, .int .i64 s.2], .agg #[.int .i64 t.1, .int .i64 t.2]] w fun e w' => e = .returned (.tuple #[.agg #[.int .i64 u.1.1, .int .i64 u.1.2, .int .i64 u.2], .int .i64 x]) ∧ Only [] w w' := by
  have HR := Lib.hid hr
  clear hr
  have hE := eq_st27F hn
  clear hn
  have HT := Lib.hid ht
  clear ht
  have hEN := eq_timesF (b := (1, 0)) hq
  clear hq
  have HU := Lib.hid hu
  have h0' : (t.1 == 0) = true := by simp; omega
  clear hu h0
  have O0 := Lib.hid (Only.refl [] w)
  go_enter Tryd.func13, Tryd.ntmps13
  have B0 := Lib.hid ((Blk.alloc (Blk.alloc (by have h := Blk.new w 27 #[.int .i64 s.1.1, .int .i64 s.1.2, .int .i64 s.2]; simpa using h : Blk (w.alloc (.cells #[.int .i64 s.1.1, .int .i64 s.1.2, .int .i64 s.2] 27)) (w.heap.size) 27 #[.int .i64 s.1.1, .int .i64 s.1.2, .int .i64 s.2]) _) _) : Blk (((w.alloc (.cells #[.int .i64 s.1.1, .int .i64 s.1.2, .int .i64 s.2] 27)).alloc (.cells #[.int .i64 t.1, .int .i64 t.2] 23)).alloc (.cells #[.int .i64 0, .int .i64 0, .int .i64 0] 27)) (w.heap.size) 27 #[.int .i64 s.1.1, .int .i64 s.1.2, .int .i64 s.2])
  have B1 := Lib.hid ((Blk.alloc (by have h := Blk.new (w.alloc (.cells #[.int .i64 s.1.1, .int .i64 s.1.2, .int .i64 s.2] 27)) 23 #[.int .i64 t.1, .int .i64 t.2]; simpa using h : Blk ((w.alloc (.cells #[.int .i64 s.1.1, .int .i64 s.1.2, .int .i64 s.2] 27)).alloc (.cells #[.int .i64 t.1, .int .i64 t.2] 23)) (w.heap.size + 1) 23 #[.int .i64 t.1, .int .i64 t.2]) _) : Blk (((w.alloc (.cells #[.int .i64 s.1.1, .int .i64 s.1.2, .int .i64 s.2] 27)).alloc (.cells #[.int .i64 t.1, .int .i64 t.2] 23)).alloc (.cells #[.int .i64 0, .int .i64 0, .int .i64 0] 27)) (w.heap.size + 1) 23 #[.int .i64 t.1, .int .i64 t.2])
  have B2 := Lib.hid ((by have h := Blk.new ((w.alloc (.cells #[.int .i64 s.1.1, .int .i64 s.1.2, .int .i64 s.2] 27)).alloc (.cells #[.int .i64 t.1, .int .i64 t.2] 23)) 27 #[.int .i64 0, .int .i64 0, .int .i64 0]; simpa using h : Blk (((w.alloc (.cells #[.int .i64 s.1.1, .int .i64 s.1.2, .int .i64 s.2] 27)).alloc (.cells #[.int .i64 t.1, .int .i64 t.2] 23)).alloc (.cells #[.int .i64 0, .int .i64 0, .int .i64 0] 27)) (w.heap.size + 2) 27 #[.int .i64 0, .int .i64 0, .int .i64 0]) : Blk (((w.alloc (.cells #[.int .i64 s.1.1, .int .i64 s.1.2, .int .i64 s.2] 27)).alloc (.cells #[.int .i64 t.1, .int .i64 t.2] 23)).alloc (.cells #[.int .i64 0, .int .i64 0, .int .i64 0] 27)) (w.heap.size + 2) 27 #[.int .i64 0, .int .i64 0, .int .i64 0])
  have O1 := Lib.hid ((((O0.out.alloc _).alloc _).alloc _) : Only [] w (((w.alloc (.cells #[.int .i64 s.1.1, .int .i64 s.1.2, .int .i64 s.2] 27)).alloc (.cells #[.int .i64 t.1, .int .i64 t.2] 23)).alloc (.cells #[.int .i64 0, .int .i64 0, .int .i64 0] 27)))
  clear O0
  go_wp2_with (fail)
  refine wp_region_facts 13 [] (fr := ?fr) (tl := ?tl) (fun i v wv => match i with
    | 0 => v = .agg #[.int .i64 s.1.1, .int .i64 s.1.2, .int .i64 s.2]
    | 1 => v = .bool true
    | 2 => v = .bool false
    | 3 => v = .bool false
    | 4 => v = .agg #[.int .i64 s.1.1, .int .i64 s.1.2, .int .i64 s.2]
    | 5 => v = .agg #[.int .i64 1, .int .i64 0, .int .i64 0]
    | 6 => v = .bool false
    | 7 => v = .bool false
    | 8 => v = .bool false
    | 9 => v = .agg #[.int .i64 t.1, .int .i64 t.2]
    | 10 => v = .bool true
    | 11 => v = .bool false
    | 12 => v = .bool false
    | _ => True) (by kernel_rfl) (by kernel_rfl) (by kernel_rfl) (by kernel_rfl) (by decide) ?htl ?hfr ?stab ?steps ?done
  case htl => simp only [List.drop_succ_cons, List.drop_zero]; rfl
  case hfr => intro vals; simp only [putAll, dstAt, Act.put, List.getElem?_toArray, List.getElem?_cons_zero, List.getElem?_cons_succ, Option.bind_some, List.setIfInBounds_toArray, List.set_cons_zero, List.set_cons_succ]; rfl
  case stab =>
    intro i v wa wb h
    try dsimp only
    split <;> first | exact id | fail
  case steps =>
    refine ⟨?_, ?_, ?_, ?_, ?_, ?_, ?_, ?_, ?_, ?_, ?_, ?_, ?_, trivial⟩
    · intro vals wr hR hp K hK
      dsimp only at hK ⊢
      clear hp
      unfold RunsOp
      have tb0 := hR.blk (by first | exact B0.out | exact Blk.drew B0.out) (by simp)
      obtain ⟨c00, c01, c02, cl0⟩ := tb0.facts3
      clear tb0
      go_simp
      exact hK.out _ _ ⟨_, rfl, Only.refl _ _, rfl⟩
    · intro vals wr hR hp K hK
      dsimp only at hK ⊢
      obtain ⟨p0, -⟩ := hp
      replace p0 := p0 rfl
      dsimp only at p0
      rw [p0] at hK ⊢
      clear p0
      unfold RunsOp
      go_simp
      refine (strightr ho HR.out _).mono ?_
      rintro e w2 ⟨rfl, o2⟩
      exact hK.out _ _ ⟨_, rfl, o2, rfl⟩
    · intro vals wr hR hp K hK
      dsimp only at hK ⊢
      obtain ⟨p1, -⟩ := hp
      replace p1 := p1 rfl
      dsimp only at p1
      obtain p1 := p1
      rw [p1] at hK ⊢
      clear p1
      unfold RunsOp
      go_simp
      exact hK.out _ _ ⟨_, rfl, Only.refl _ _, rfl⟩
    · intro vals wr hR hp K hK
      dsimp only at hK ⊢
      obtain ⟨p2, -, -⟩ := hp
      replace p2 := p2 rfl
      dsimp only at p2
      rw [p2] at hK ⊢
      clear p2
      unfold RunsOp
      go_simp
      exact hK.out _ _ ⟨_, rfl, Only.refl _ _, rfl⟩
    · intro vals wr hR hp K hK
      dsimp only at hK ⊢
      obtain ⟨p3, -⟩ := hp
      replace p3 := p3 rfl
      dsimp only at p3
      rw [p3] at hK ⊢
      clear p3
      unfold RunsOp
      have tb0 := hR.blk (by first | exact B0.out | exact Blk.drew B0.out) (by simp)
      obtain ⟨c00, c01, c02, cl0⟩ := tb0.facts3
      clear tb0
      go_simp
      exact hK.out _ _ ⟨_, rfl, Only.refl _ _, rfl⟩
    · intro vals wr hR hp K hK
      dsimp only at hK ⊢
      obtain ⟨p3, -, -⟩ := hp
      replace p3 := p3 rfl
      dsimp only at p3
      rw [p3] at hK ⊢
      clear p3
      unfold RunsOp
      go_simp
      refine (stnever_any _).mono ?_
      rintro e w2 ⟨rfl, o2⟩
      exact hK.out _ _ ⟨_, rfl, o2, rfl⟩
    · intro vals wr hR hp K hK
      dsimp only at hK ⊢
      obtain ⟨p4, p5, p3, -⟩ := hp
      replace p4 := p4 rfl
      replace p5 := p5 rfl
      replace p3 := p3 rfl
      dsimp only at p4 p5 p3
      obtain p5 := p5
      rw [p4, p5, p3] at hK ⊢
      clear p4 p5 p3
      unfold RunsOp
      go_simp
      exact hK.out _ _ ⟨_, rfl, Only.refl _ _, rfl⟩
    · intro vals wr hR hp K hK
      dsimp only at hK ⊢
      obtain ⟨p3, p6, -⟩ := hp
      replace p3 := p3 rfl
      replace p6 := p6 rfl
      dsimp only at p3 p6
      rw [p3, p6] at hK ⊢
      clear p3 p6
      unfold RunsOp
      go_simp
      exact hK.out _ _ ⟨_, rfl, Only.refl _ _, rfl⟩
    · intro vals wr hR hp K hK
      dsimp only at hK ⊢
      obtain ⟨p7, -, -⟩ := hp
      replace p7 := p7 rfl
      dsimp only at p7
      rw [p7] at hK ⊢
      clear p7
      unfold RunsOp
      go_simp
      exact hK.out _ _ ⟨_, rfl, Only.refl _ _, rfl⟩
    · intro vals wr hR hp K hK
      dsimp only at hK ⊢
      obtain ⟨p8, -⟩ := hp
      replace p8 := p8 rfl
      dsimp only at p8
      rw [p8] at hK ⊢
      clear p8
      unfold RunsOp
      have tb1 := hR.blk (by first | exact B1.out | exact Blk.drew B1.out) (by simp)
      obtain ⟨c10, c11, cl1⟩ := tb1.facts2
      clear tb1
      go_simp
      exact hK.out _ _ ⟨_, rfl, Only.refl _ _, rfl⟩
    · intro vals wr hR hp K hK
      dsimp only at hK ⊢
      obtain ⟨p9, p8, -, -⟩ := hp
      replace p9 := p9 rfl
      replace p8 := p8 rfl
      dsimp only at p9 p8
      rw [p9, p8] at hK ⊢
      clear p9 p8
      unfold RunsOp
      go_simp
      refine (rightr to HT.out _).mono ?_
      rintro e w2 ⟨rfl, o2⟩
      exact hK.out _ _ ⟨_, rfl, o2, rfl⟩
    · intro vals wr hR hp K hK
      dsimp only at hK ⊢
      obtain ⟨p10, p8, -⟩ := hp
      replace p10 := p10 rfl
      replace p8 := p8 rfl
      dsimp only at p10 p8
      obtain p10 := p10
      rw [p10, p8] at hK ⊢
      clear p10 p8
      unfold RunsOp
      go_simp
      exact hK.out _ _ ⟨_, rfl, Only.refl _ _, rfl⟩
    · intro vals wr hR hp K hK
      dsimp only at hK ⊢
      obtain ⟨p8, p11, -⟩ := hp
      replace p8 := p8 rfl
      replace p11 := p11 rfl
      dsimp only at p8 p11
      rw [p8, p11] at hK ⊢
      clear p8 p11
      unfold RunsOp
      go_simp
      exact hK.out _ _ ⟨_, rfl, Only.refl _ _, rfl⟩
  intro vals w2 hR hF
  have f12 : vals 12 = .bool false := hF 12 (by decide)
  rw [f12]
  clear hF f12
  refine wpList_nil ?_
  have B0x := hR.blk (t := 27) (cs := #[.int .i64 s.1.1, .int .i64 s.1.2, .int .i64 s.2]) (g := w.heap.size) (by first | exact B0.out | exact Blk.drewN B0.out _ | exact Blk.drew B0.out) (by simp)
  have B1x := hR.blk (t := 23) (cs := #[.int .i64 t.1, .int .i64 t.2]) (g := w.heap.size + 1) (by first | exact B1.out | exact Blk.drewN B1.out _ | exact Blk.drew B1.out) (by simp)
  have B2x := hR.blk (t := 27) (cs := #[.int .i64 0, .int .i64 0, .int .i64 0]) (g := w.heap.size + 2) (by first | exact B2.out | exact Blk.drewN B2.out _ | exact Blk.drew B2.out) (by simp)
  have O2x : Only [] w w2 := (by first | exact Only.trans O1.out hR (by simp) | exact Only.trans (Only.drewN O1.out _) hR (by simp) | exact Only.trans (Only.drew O1.out) hR (by simp))
  obtain ⟨B0c0, B0c1, B0c2, B0l⟩ := B0x.facts3
  obtain ⟨B1c0, B1c1, B1l⟩ := B1x.facts2
  obtain ⟨B2c0, B2c1, B2c2, B2l⟩ := B2x.facts3
  clear B0 B1 B2 O1 hR
  have B0 := Lib.hid B0x; have B1 := Lib.hid B1x; have B2 := Lib.hid B2x; have O2 := Lib.hid O2x
  clear B0x B1x B2x O2x
  go_wp2_with (fail)
  refine wp_region_facts 3 [] (fr := ?frc) (tl := ?tlc) (fun i v wv => match i with
    | 0 => v = .agg #[.int .i64 t.1, .int .i64 t.2]
    | 1 => v = .agg #[.int .i64 1, .int .i64 0]
    | 2 => v = .bool false
    | _ => True) (by kernel_rfl) (by kernel_rfl) (by kernel_rfl) (by kernel_rfl) (by decide) ?htlc ?hfrc ?stabc ?stepsc ?donec
  case htlc => simp only [List.drop_succ_cons, List.drop_zero]; rfl
  case hfrc => intro vals; simp only [putAll, dstAt, Act.put, List.getElem?_toArray, List.getElem?_cons_zero, List.getElem?_cons_succ, Option.bind_some, List.setIfInBounds_toArray, List.set_cons_zero, List.set_cons_succ]; rfl
  case stabc =>
    intro i v wa wb h
    try dsimp only
    split <;> first | exact id | fail
  case stepsc =>
    refine ⟨?_, ?_, ?_, trivial⟩
    · intro vals wr hR hp K hK
      dsimp only at hK ⊢
      clear hp
      unfold RunsOp
      have tb1 := hR.blk (by first | exact B1.out | exact Blk.drew B1.out) (by simp)
      obtain ⟨c10, c11, cl1⟩ := tb1.facts2
      clear tb1
      go_simp
      exact hK.out _ _ ⟨_, rfl, Only.refl _ _, rfl⟩
    · intro vals wr hR hp K hK
      dsimp only at hK ⊢
      clear hp
      unfold RunsOp
      go_simp
      refine (never_any _).mono ?_
      rintro e w2 ⟨rfl, o2⟩
      exact hK.out _ _ ⟨_, rfl, o2, rfl⟩
    · intro vals wr hR hp K hK
      dsimp only at hK ⊢
      obtain ⟨p0, p1, -⟩ := hp
      replace p0 := p0 rfl
      replace p1 := p1 rfl
      dsimp only at p0 p1
      obtain p1 := p1
      rw [p0, p1] at hK ⊢
      clear p0 p1
      unfold RunsOp
      go_simp
      exact hK.out _ _ ⟨_, rfl, Only.refl _ _, rfl⟩
  intro vals w3 hR hF
  have f2 : vals 2 = .bool false := hF 2 (by decide)
  rw [f2]
  clear hF f2
  refine wpList_nil ?_
  have B0x := hR.blk (t := 27) (cs := #[.int .i64 s.1.1, .int .i64 s.1.2, .int .i64 s.2]) (g := w.heap.size) (by first | exact B0.out | exact Blk.drewN B0.out _ | exact Blk.drew B0.out) (by simp)
  have B1x := hR.blk (t := 23) (cs := #[.int .i64 t.1, .int .i64 t.2]) (g := w.heap.size + 1) (by first | exact B1.out | exact Blk.drewN B1.out _ | exact Blk.drew B1.out) (by simp)
  have B2x := hR.blk (t := 27) (cs := #[.int .i64 0, .int .i64 0, .int .i64 0]) (g := w.heap.size + 2) (by first | exact B2.out | exact Blk.drewN B2.out _ | exact Blk.drew B2.out) (by simp)
  have O3x : Only [] w w3 := (by first | exact Only.trans O2.out hR (by simp) | exact Only.trans (Only.drewN O2.out _) hR (by simp) | exact Only.trans (Only.drew O2.out) hR (by simp))
  obtain ⟨B0c0, B0c1, B0c2, B0l⟩ := B0x.facts3
  obtain ⟨B1c0, B1c1, B1l⟩ := B1x.facts2
  obtain ⟨B2c0, B2c1, B2c2, B2l⟩ := B2x.facts3
  clear B0 B1 B2 O2 hR
  have B0 := Lib.hid B0x; have B1 := Lib.hid B1x; have B2 := Lib.hid B2x; have O3 := Lib.hid O3x
  clear B0x B1x B2x O3x
  go_wp2_with (fail)
  refine (nextr s ho HU.out _).mono ?_
  rintro e w4 ⟨rfl, o⟩
  have B0x := o.blk (t := 27) (cs := #[.int .i64 s.1.1, .int .i64 s.1.2, .int .i64 s.2]) (g := w.heap.size) (by first | exact B0.out | exact Blk.drewN B0.out _ | exact Blk.drew B0.out) (by simp)
  have B1x := o.blk (t := 23) (cs := #[.int .i64 t.1, .int .i64 t.2]) (g := w.heap.size + 1) (by first | exact B1.out | exact Blk.drewN B1.out _ | exact Blk.drew B1.out) (by simp)
  have B2x := o.blk (t := 27) (cs := #[.int .i64 0, .int .i64 0, .int .i64 0]) (g := w.heap.size + 2) (by first | exact B2.out | exact Blk.drewN B2.out _ | exact Blk.drew B2.out) (by simp)
  have O4x : Only [] w w4 := (by first | exact Only.trans O3.out o (by simp) | exact Only.trans (Only.drewN O3.out _) o (by simp) | exact Only.trans (Only.drew O3.out) o (by simp))
  obtain ⟨B0c0, B0c1, B0c2, B0l⟩ := B0x.facts3
  obtain ⟨B1c0, B1c1, B1l⟩ := B1x.facts2
  obtain ⟨B2c0, B2c1, B2c2, B2l⟩ := B2x.facts3
  clear B0 B1 B2 O3 o
  have B0 := Lib.hid B0x; have B1 := Lib.hid B1x; have B2 := Lib.hid B2x; have O4 := Lib.hid O4x
  clear B0x B1x B2x O4x
  have fr0 := B2.out.frozen 0
  have fr1 := B2.out.frozen 1
  have fr2 := B2.out.frozen 2
  go_wp2_with (fail)
  exact bodyPost_ret (v := .tuple #[.agg #[.int .i64 u.1.1, .int .i64 u.1.2, .int .i64 u.2], .int .i64 x]) (by simp [results, Tryd.results13, go_sem, B2c0, B2c1, B2c2]) rfl ⟨rfl, only_three O4.out (by simp; try omega) (by simp; try omega) (by simp; try omega) _ _ _⟩

set_option maxHeartbeats 1000000 in
theorem after_ae (s : St) (t : Tm) (ho : s.ok) (hr : stR s = true) (hn : s ≠ ((1, 0), 0)) (to : t.ok) (ht : t.right = true) (hq : t ≠ (1, 0)) (h0 : t.1 ≠ 0) {m : Tm} {x : Int} (hu : addT s.1 t = (m, x)) (he : x ≠ 0) (w : World) :
    Calls Tryd.prog 13 #[.agg #[.int .i64 s.1.1, .int .i64 s.1.2, .int .i64 s.2], .agg #[.int .i64 t.1, .int .i64 t.2]] w fun e w' => e = .returned (.tuple #[.agg #[.int .i64 0, .int .i64 0, .int .i64 0], .int .i64 x]) ∧ Only [] w w' := by
  have HR := Lib.hid hr
  clear hr
  have hE := eq_st27F hn
  clear hn
  have HT := Lib.hid ht
  clear ht
  have hEN := eq_timesF (b := (1, 0)) hq
  clear hq
  have HU := Lib.hid hu
  have h0' : (t.1 == 0) = false := by simp; omega
  clear hu h0
  have he' : (x != 0) = true := by simpa using he
  clear he
  have O0 := Lib.hid (Only.refl [] w)
  go_enter Tryd.func13, Tryd.ntmps13
  have B0 := Lib.hid ((Blk.alloc (Blk.alloc (by have h := Blk.new w 27 #[.int .i64 s.1.1, .int .i64 s.1.2, .int .i64 s.2]; simpa using h : Blk (w.alloc (.cells #[.int .i64 s.1.1, .int .i64 s.1.2, .int .i64 s.2] 27)) (w.heap.size) 27 #[.int .i64 s.1.1, .int .i64 s.1.2, .int .i64 s.2]) _) _) : Blk (((w.alloc (.cells #[.int .i64 s.1.1, .int .i64 s.1.2, .int .i64 s.2] 27)).alloc (.cells #[.int .i64 t.1, .int .i64 t.2] 23)).alloc (.cells #[.int .i64 0, .int .i64 0, .int .i64 0] 27)) (w.heap.size) 27 #[.int .i64 s.1.1, .int .i64 s.1.2, .int .i64 s.2])
  have B1 := Lib.hid ((Blk.alloc (by have h := Blk.new (w.alloc (.cells #[.int .i64 s.1.1, .int .i64 s.1.2, .int .i64 s.2] 27)) 23 #[.int .i64 t.1, .int .i64 t.2]; simpa using h : Blk ((w.alloc (.cells #[.int .i64 s.1.1, .int .i64 s.1.2, .int .i64 s.2] 27)).alloc (.cells #[.int .i64 t.1, .int .i64 t.2] 23)) (w.heap.size + 1) 23 #[.int .i64 t.1, .int .i64 t.2]) _) : Blk (((w.alloc (.cells #[.int .i64 s.1.1, .int .i64 s.1.2, .int .i64 s.2] 27)).alloc (.cells #[.int .i64 t.1, .int .i64 t.2] 23)).alloc (.cells #[.int .i64 0, .int .i64 0, .int .i64 0] 27)) (w.heap.size + 1) 23 #[.int .i64 t.1, .int .i64 t.2])
  have B2 := Lib.hid ((by have h := Blk.new ((w.alloc (.cells #[.int .i64 s.1.1, .int .i64 s.1.2, .int .i64 s.2] 27)).alloc (.cells #[.int .i64 t.1, .int .i64 t.2] 23)) 27 #[.int .i64 0, .int .i64 0, .int .i64 0]; simpa using h : Blk (((w.alloc (.cells #[.int .i64 s.1.1, .int .i64 s.1.2, .int .i64 s.2] 27)).alloc (.cells #[.int .i64 t.1, .int .i64 t.2] 23)).alloc (.cells #[.int .i64 0, .int .i64 0, .int .i64 0] 27)) (w.heap.size + 2) 27 #[.int .i64 0, .int .i64 0, .int .i64 0]) : Blk (((w.alloc (.cells #[.int .i64 s.1.1, .int .i64 s.1.2, .int .i64 s.2] 27)).alloc (.cells #[.int .i64 t.1, .int .i64 t.2] 23)).alloc (.cells #[.int .i64 0, .int .i64 0, .int .i64 0] 27)) (w.heap.size + 2) 27 #[.int .i64 0, .int .i64 0, .int .i64 0])
  have O1 := Lib.hid ((((O0.out.alloc _).alloc _).alloc _) : Only [] w (((w.alloc (.cells #[.int .i64 s.1.1, .int .i64 s.1.2, .int .i64 s.2] 27)).alloc (.cells #[.int .i64 t.1, .int .i64 t.2] 23)).alloc (.cells #[.int .i64 0, .int .i64 0, .int .i64 0] 27)))
  clear O0
  go_wp2_with (fail)
  refine wp_region_facts 13 [] (fr := ?fr) (tl := ?tl) (fun i v wv => match i with
    | 0 => v = .agg #[.int .i64 s.1.1, .int .i64 s.1.2, .int .i64 s.2]
    | 1 => v = .bool true
    | 2 => v = .bool false
    | 3 => v = .bool false
    | 4 => v = .agg #[.int .i64 s.1.1, .int .i64 s.1.2, .int .i64 s.2]
    | 5 => v = .agg #[.int .i64 1, .int .i64 0, .int .i64 0]
    | 6 => v = .bool false
    | 7 => v = .bool false
    | 8 => v = .bool false
    | 9 => v = .agg #[.int .i64 t.1, .int .i64 t.2]
    | 10 => v = .bool true
    | 11 => v = .bool false
    | 12 => v = .bool false
    | _ => True) (by kernel_rfl) (by kernel_rfl) (by kernel_rfl) (by kernel_rfl) (by decide) ?htl ?hfr ?stab ?steps ?done
  case htl => simp only [List.drop_succ_cons, List.drop_zero]; rfl
  case hfr => intro vals; simp only [putAll, dstAt, Act.put, List.getElem?_toArray, List.getElem?_cons_zero, List.getElem?_cons_succ, Option.bind_some, List.setIfInBounds_toArray, List.set_cons_zero, List.set_cons_succ]; rfl
  case stab =>
    intro i v wa wb h
    try dsimp only
    split <;> first | exact id | fail
  case steps =>
    refine ⟨?_, ?_, ?_, ?_, ?_, ?_, ?_, ?_, ?_, ?_, ?_, ?_, ?_, trivial⟩
    · intro vals wr hR hp K hK
      dsimp only at hK ⊢
      clear hp
      unfold RunsOp
      have tb0 := hR.blk (by first | exact B0.out | exact Blk.drew B0.out) (by simp)
      obtain ⟨c00, c01, c02, cl0⟩ := tb0.facts3
      clear tb0
      go_simp
      exact hK.out _ _ ⟨_, rfl, Only.refl _ _, rfl⟩
    · intro vals wr hR hp K hK
      dsimp only at hK ⊢
      obtain ⟨p0, -⟩ := hp
      replace p0 := p0 rfl
      dsimp only at p0
      rw [p0] at hK ⊢
      clear p0
      unfold RunsOp
      go_simp
      refine (strightr ho HR.out _).mono ?_
      rintro e w2 ⟨rfl, o2⟩
      exact hK.out _ _ ⟨_, rfl, o2, rfl⟩
    · intro vals wr hR hp K hK
      dsimp only at hK ⊢
      obtain ⟨p1, -⟩ := hp
      replace p1 := p1 rfl
      dsimp only at p1
      obtain p1 := p1
      rw [p1] at hK ⊢
      clear p1
      unfold RunsOp
      go_simp
      exact hK.out _ _ ⟨_, rfl, Only.refl _ _, rfl⟩
    · intro vals wr hR hp K hK
      dsimp only at hK ⊢
      obtain ⟨p2, -, -⟩ := hp
      replace p2 := p2 rfl
      dsimp only at p2
      rw [p2] at hK ⊢
      clear p2
      unfold RunsOp
      go_simp
      exact hK.out _ _ ⟨_, rfl, Only.refl _ _, rfl⟩
    · intro vals wr hR hp K hK
      dsimp only at hK ⊢
      obtain ⟨p3, -⟩ := hp
      replace p3 := p3 rfl
      dsimp only at p3
      rw [p3] at hK ⊢
      clear p3
      unfold RunsOp
      have tb0 := hR.blk (by first | exact B0.out | exact Blk.drew B0.out) (by simp)
      obtain ⟨c00, c01, c02, cl0⟩ := tb0.facts3
      clear tb0
      go_simp
      exact hK.out _ _ ⟨_, rfl, Only.refl _ _, rfl⟩
    · intro vals wr hR hp K hK
      dsimp only at hK ⊢
      obtain ⟨p3, -, -⟩ := hp
      replace p3 := p3 rfl
      dsimp only at p3
      rw [p3] at hK ⊢
      clear p3
      unfold RunsOp
      go_simp
      refine (stnever_any _).mono ?_
      rintro e w2 ⟨rfl, o2⟩
      exact hK.out _ _ ⟨_, rfl, o2, rfl⟩
    · intro vals wr hR hp K hK
      dsimp only at hK ⊢
      obtain ⟨p4, p5, p3, -⟩ := hp
      replace p4 := p4 rfl
      replace p5 := p5 rfl
      replace p3 := p3 rfl
      dsimp only at p4 p5 p3
      obtain p5 := p5
      rw [p4, p5, p3] at hK ⊢
      clear p4 p5 p3
      unfold RunsOp
      go_simp
      exact hK.out _ _ ⟨_, rfl, Only.refl _ _, rfl⟩
    · intro vals wr hR hp K hK
      dsimp only at hK ⊢
      obtain ⟨p3, p6, -⟩ := hp
      replace p3 := p3 rfl
      replace p6 := p6 rfl
      dsimp only at p3 p6
      rw [p3, p6] at hK ⊢
      clear p3 p6
      unfold RunsOp
      go_simp
      exact hK.out _ _ ⟨_, rfl, Only.refl _ _, rfl⟩
    · intro vals wr hR hp K hK
      dsimp only at hK ⊢
      obtain ⟨p7, -, -⟩ := hp
      replace p7 := p7 rfl
      dsimp only at p7
      rw [p7] at hK ⊢
      clear p7
      unfold RunsOp
      go_simp
      exact hK.out _ _ ⟨_, rfl, Only.refl _ _, rfl⟩
    · intro vals wr hR hp K hK
      dsimp only at hK ⊢
      obtain ⟨p8, -⟩ := hp
      replace p8 := p8 rfl
      dsimp only at p8
      rw [p8] at hK ⊢
      clear p8
      unfold RunsOp
      have tb1 := hR.blk (by first | exact B1.out | exact Blk.drew B1.out) (by simp)
      obtain ⟨c10, c11, cl1⟩ := tb1.facts2
      clear tb1
      go_simp
      exact hK.out _ _ ⟨_, rfl, Only.refl _ _, rfl⟩
    · intro vals wr hR hp K hK
      dsimp only at hK ⊢
      obtain ⟨p9, p8, -, -⟩ := hp
      replace p9 := p9 rfl
      replace p8 := p8 rfl
      dsimp only at p9 p8
      rw [p9, p8] at hK ⊢
      clear p9 p8
      unfold RunsOp
      go_simp
      refine (rightr to HT.out _).mono ?_
      rintro e w2 ⟨rfl, o2⟩
      exact hK.out _ _ ⟨_, rfl, o2, rfl⟩
    · intro vals wr hR hp K hK
      dsimp only at hK ⊢
      obtain ⟨p10, p8, -⟩ := hp
      replace p10 := p10 rfl
      replace p8 := p8 rfl
      dsimp only at p10 p8
      obtain p10 := p10
      rw [p10, p8] at hK ⊢
      clear p10 p8
      unfold RunsOp
      go_simp
      exact hK.out _ _ ⟨_, rfl, Only.refl _ _, rfl⟩
    · intro vals wr hR hp K hK
      dsimp only at hK ⊢
      obtain ⟨p8, p11, -⟩ := hp
      replace p8 := p8 rfl
      replace p11 := p11 rfl
      dsimp only at p8 p11
      rw [p8, p11] at hK ⊢
      clear p8 p11
      unfold RunsOp
      go_simp
      exact hK.out _ _ ⟨_, rfl, Only.refl _ _, rfl⟩
  intro vals w2 hR hF
  have f12 : vals 12 = .bool false := hF 12 (by decide)
  rw [f12]
  clear hF f12
  refine wpList_nil ?_
  have B0x := hR.blk (t := 27) (cs := #[.int .i64 s.1.1, .int .i64 s.1.2, .int .i64 s.2]) (g := w.heap.size) (by first | exact B0.out | exact Blk.drewN B0.out _ | exact Blk.drew B0.out) (by simp)
  have B1x := hR.blk (t := 23) (cs := #[.int .i64 t.1, .int .i64 t.2]) (g := w.heap.size + 1) (by first | exact B1.out | exact Blk.drewN B1.out _ | exact Blk.drew B1.out) (by simp)
  have B2x := hR.blk (t := 27) (cs := #[.int .i64 0, .int .i64 0, .int .i64 0]) (g := w.heap.size + 2) (by first | exact B2.out | exact Blk.drewN B2.out _ | exact Blk.drew B2.out) (by simp)
  have O2x : Only [] w w2 := (by first | exact Only.trans O1.out hR (by simp) | exact Only.trans (Only.drewN O1.out _) hR (by simp) | exact Only.trans (Only.drew O1.out) hR (by simp))
  obtain ⟨B0c0, B0c1, B0c2, B0l⟩ := B0x.facts3
  obtain ⟨B1c0, B1c1, B1l⟩ := B1x.facts2
  obtain ⟨B2c0, B2c1, B2c2, B2l⟩ := B2x.facts3
  clear B0 B1 B2 O1 hR
  have B0 := Lib.hid B0x; have B1 := Lib.hid B1x; have B2 := Lib.hid B2x; have O2 := Lib.hid O2x
  clear B0x B1x B2x O2x
  go_wp2_with (fail)
  refine wp_region_facts 3 [] (fr := ?frc) (tl := ?tlc) (fun i v wv => match i with
    | 0 => v = .agg #[.int .i64 t.1, .int .i64 t.2]
    | 1 => v = .agg #[.int .i64 1, .int .i64 0]
    | 2 => v = .bool false
    | _ => True) (by kernel_rfl) (by kernel_rfl) (by kernel_rfl) (by kernel_rfl) (by decide) ?htlc ?hfrc ?stabc ?stepsc ?donec
  case htlc => simp only [List.drop_succ_cons, List.drop_zero]; rfl
  case hfrc => intro vals; simp only [putAll, dstAt, Act.put, List.getElem?_toArray, List.getElem?_cons_zero, List.getElem?_cons_succ, Option.bind_some, List.setIfInBounds_toArray, List.set_cons_zero, List.set_cons_succ]; rfl
  case stabc =>
    intro i v wa wb h
    try dsimp only
    split <;> first | exact id | fail
  case stepsc =>
    refine ⟨?_, ?_, ?_, trivial⟩
    · intro vals wr hR hp K hK
      dsimp only at hK ⊢
      clear hp
      unfold RunsOp
      have tb1 := hR.blk (by first | exact B1.out | exact Blk.drew B1.out) (by simp)
      obtain ⟨c10, c11, cl1⟩ := tb1.facts2
      clear tb1
      go_simp
      exact hK.out _ _ ⟨_, rfl, Only.refl _ _, rfl⟩
    · intro vals wr hR hp K hK
      dsimp only at hK ⊢
      clear hp
      unfold RunsOp
      go_simp
      refine (never_any _).mono ?_
      rintro e w2 ⟨rfl, o2⟩
      exact hK.out _ _ ⟨_, rfl, o2, rfl⟩
    · intro vals wr hR hp K hK
      dsimp only at hK ⊢
      obtain ⟨p0, p1, -⟩ := hp
      replace p0 := p0 rfl
      replace p1 := p1 rfl
      dsimp only at p0 p1
      obtain p1 := p1
      rw [p0, p1] at hK ⊢
      clear p0 p1
      unfold RunsOp
      go_simp
      exact hK.out _ _ ⟨_, rfl, Only.refl _ _, rfl⟩
  intro vals w3 hR hF
  have f2 : vals 2 = .bool false := hF 2 (by decide)
  rw [f2]
  clear hF f2
  refine wpList_nil ?_
  have B0x := hR.blk (t := 27) (cs := #[.int .i64 s.1.1, .int .i64 s.1.2, .int .i64 s.2]) (g := w.heap.size) (by first | exact B0.out | exact Blk.drewN B0.out _ | exact Blk.drew B0.out) (by simp)
  have B1x := hR.blk (t := 23) (cs := #[.int .i64 t.1, .int .i64 t.2]) (g := w.heap.size + 1) (by first | exact B1.out | exact Blk.drewN B1.out _ | exact Blk.drew B1.out) (by simp)
  have B2x := hR.blk (t := 27) (cs := #[.int .i64 0, .int .i64 0, .int .i64 0]) (g := w.heap.size + 2) (by first | exact B2.out | exact Blk.drewN B2.out _ | exact Blk.drew B2.out) (by simp)
  have O3x : Only [] w w3 := (by first | exact Only.trans O2.out hR (by simp) | exact Only.trans (Only.drewN O2.out _) hR (by simp) | exact Only.trans (Only.drew O2.out) hR (by simp))
  obtain ⟨B0c0, B0c1, B0c2, B0l⟩ := B0x.facts3
  obtain ⟨B1c0, B1c1, B1l⟩ := B1x.facts2
  obtain ⟨B2c0, B2c1, B2c2, B2l⟩ := B2x.facts3
  clear B0 B1 B2 O2 hR
  have B0 := Lib.hid B0x; have B1 := Lib.hid B1x; have B2 := Lib.hid B2x; have O3 := Lib.hid O3x
  clear B0x B1x B2x O3x
  go_wp2_with (fail)
  refine (addr s.1 t ho.1 to HU.out _).mono ?_
  rintro e w4 ⟨rfl, o⟩
  have B0x := o.blk (t := 27) (cs := #[.int .i64 s.1.1, .int .i64 s.1.2, .int .i64 s.2]) (g := w.heap.size) (by first | exact B0.out | exact Blk.drewN B0.out _ | exact Blk.drew B0.out) (by simp)
  have B1x := o.blk (t := 23) (cs := #[.int .i64 t.1, .int .i64 t.2]) (g := w.heap.size + 1) (by first | exact B1.out | exact Blk.drewN B1.out _ | exact Blk.drew B1.out) (by simp)
  have B2x := o.blk (t := 27) (cs := #[.int .i64 0, .int .i64 0, .int .i64 0]) (g := w.heap.size + 2) (by first | exact B2.out | exact Blk.drewN B2.out _ | exact Blk.drew B2.out) (by simp)
  have O4x : Only [] w w4 := (by first | exact Only.trans O3.out o (by simp) | exact Only.trans (Only.drewN O3.out _) o (by simp) | exact Only.trans (Only.drew O3.out) o (by simp))
  obtain ⟨B0c0, B0c1, B0c2, B0l⟩ := B0x.facts3
  obtain ⟨B1c0, B1c1, B1l⟩ := B1x.facts2
  obtain ⟨B2c0, B2c1, B2c2, B2l⟩ := B2x.facts3
  clear B0 B1 B2 O3 o
  have B0 := Lib.hid B0x; have B1 := Lib.hid B1x; have B2 := Lib.hid B2x; have O4 := Lib.hid O4x
  clear B0x B1x B2x O4x
  have fr0 := B2.out.frozen 0
  have fr1 := B2.out.frozen 1
  have fr2 := B2.out.frozen 2
  go_wp2_with (fail)
  exact bodyPost_ret (v := .tuple #[.agg #[.int .i64 0, .int .i64 0, .int .i64 0], .int .i64 x]) (by simp [results, Tryd.results13, go_sem, B2c0, B2c1, B2c2, World.cell?_alloc_lt, B2l]) rfl ⟨rfl, (only_three O4.out (by simp; try omega) (by simp; try omega) (by simp; try omega) _ _ _).alloc _⟩

set_option maxHeartbeats 1000000 in
theorem after_ok (s : St) (t : Tm) (ho : s.ok) (hr : stR s = true) (hn : s ≠ ((1, 0), 0)) (to : t.ok) (ht : t.right = true) (hq : t ≠ (1, 0)) (h0 : t.1 ≠ 0) {m : Tm} {x : Int} (hu : addT s.1 t = (m, x)) (he : x = 0) (w : World) :
    Calls Tryd.prog 13 #[.agg #[.int .i64 s.1.1, .int .i64 s.1.2, .int .i64 s.2], .agg #[.int .i64 t.1, .int .i64 t.2]] w fun e w' => e = .returned (.tuple #[.agg #[.int .i64 m.1, .int .i64 m.2, .int .i64 0], .int .i64 0]) ∧ Only [] w w' := by
  have HR := Lib.hid hr
  clear hr
  have hE := eq_st27F hn
  clear hn
  have HT := Lib.hid ht
  clear ht
  have hEN := eq_timesF (b := (1, 0)) hq
  clear hq
  have HU := Lib.hid hu
  have h0' : (t.1 == 0) = false := by simp; omega
  clear hu h0
  subst he
  have O0 := Lib.hid (Only.refl [] w)
  go_enter Tryd.func13, Tryd.ntmps13
  have B0 := Lib.hid ((Blk.alloc (Blk.alloc (by have h := Blk.new w 27 #[.int .i64 s.1.1, .int .i64 s.1.2, .int .i64 s.2]; simpa using h : Blk (w.alloc (.cells #[.int .i64 s.1.1, .int .i64 s.1.2, .int .i64 s.2] 27)) (w.heap.size) 27 #[.int .i64 s.1.1, .int .i64 s.1.2, .int .i64 s.2]) _) _) : Blk (((w.alloc (.cells #[.int .i64 s.1.1, .int .i64 s.1.2, .int .i64 s.2] 27)).alloc (.cells #[.int .i64 t.1, .int .i64 t.2] 23)).alloc (.cells #[.int .i64 0, .int .i64 0, .int .i64 0] 27)) (w.heap.size) 27 #[.int .i64 s.1.1, .int .i64 s.1.2, .int .i64 s.2])
  have B1 := Lib.hid ((Blk.alloc (by have h := Blk.new (w.alloc (.cells #[.int .i64 s.1.1, .int .i64 s.1.2, .int .i64 s.2] 27)) 23 #[.int .i64 t.1, .int .i64 t.2]; simpa using h : Blk ((w.alloc (.cells #[.int .i64 s.1.1, .int .i64 s.1.2, .int .i64 s.2] 27)).alloc (.cells #[.int .i64 t.1, .int .i64 t.2] 23)) (w.heap.size + 1) 23 #[.int .i64 t.1, .int .i64 t.2]) _) : Blk (((w.alloc (.cells #[.int .i64 s.1.1, .int .i64 s.1.2, .int .i64 s.2] 27)).alloc (.cells #[.int .i64 t.1, .int .i64 t.2] 23)).alloc (.cells #[.int .i64 0, .int .i64 0, .int .i64 0] 27)) (w.heap.size + 1) 23 #[.int .i64 t.1, .int .i64 t.2])
  have B2 := Lib.hid ((by have h := Blk.new ((w.alloc (.cells #[.int .i64 s.1.1, .int .i64 s.1.2, .int .i64 s.2] 27)).alloc (.cells #[.int .i64 t.1, .int .i64 t.2] 23)) 27 #[.int .i64 0, .int .i64 0, .int .i64 0]; simpa using h : Blk (((w.alloc (.cells #[.int .i64 s.1.1, .int .i64 s.1.2, .int .i64 s.2] 27)).alloc (.cells #[.int .i64 t.1, .int .i64 t.2] 23)).alloc (.cells #[.int .i64 0, .int .i64 0, .int .i64 0] 27)) (w.heap.size + 2) 27 #[.int .i64 0, .int .i64 0, .int .i64 0]) : Blk (((w.alloc (.cells #[.int .i64 s.1.1, .int .i64 s.1.2, .int .i64 s.2] 27)).alloc (.cells #[.int .i64 t.1, .int .i64 t.2] 23)).alloc (.cells #[.int .i64 0, .int .i64 0, .int .i64 0] 27)) (w.heap.size + 2) 27 #[.int .i64 0, .int .i64 0, .int .i64 0])
  have O1 := Lib.hid ((((O0.out.alloc _).alloc _).alloc _) : Only [] w (((w.alloc (.cells #[.int .i64 s.1.1, .int .i64 s.1.2, .int .i64 s.2] 27)).alloc (.cells #[.int .i64 t.1, .int .i64 t.2] 23)).alloc (.cells #[.int .i64 0, .int .i64 0, .int .i64 0] 27)))
  clear O0
  go_wp2_with (fail)
  refine wp_region_facts 13 [] (fr := ?fr) (tl := ?tl) (fun i v wv => match i with
    | 0 => v = .agg #[.int .i64 s.1.1, .int .i64 s.1.2, .int .i64 s.2]
    | 1 => v = .bool true
    | 2 => v = .bool false
    | 3 => v = .bool false
    | 4 => v = .agg #[.int .i64 s.1.1, .int .i64 s.1.2, .int .i64 s.2]
    | 5 => v = .agg #[.int .i64 1, .int .i64 0, .int .i64 0]
    | 6 => v = .bool false
    | 7 => v = .bool false
    | 8 => v = .bool false
    | 9 => v = .agg #[.int .i64 t.1, .int .i64 t.2]
    | 10 => v = .bool true
    | 11 => v = .bool false
    | 12 => v = .bool false
    | _ => True) (by kernel_rfl) (by kernel_rfl) (by kernel_rfl) (by kernel_rfl) (by decide) ?htl ?hfr ?stab ?steps ?done
  case htl => simp only [List.drop_succ_cons, List.drop_zero]; rfl
  case hfr => intro vals; simp only [putAll, dstAt, Act.put, List.getElem?_toArray, List.getElem?_cons_zero, List.getElem?_cons_succ, Option.bind_some, List.setIfInBounds_toArray, List.set_cons_zero, List.set_cons_succ]; rfl
  case stab =>
    intro i v wa wb h
    try dsimp only
    split <;> first | exact id | fail
  case steps =>
    refine ⟨?_, ?_, ?_, ?_, ?_, ?_, ?_, ?_, ?_, ?_, ?_, ?_, ?_, trivial⟩
    · intro vals wr hR hp K hK
      dsimp only at hK ⊢
      clear hp
      unfold RunsOp
      have tb0 := hR.blk (by first | exact B0.out | exact Blk.drew B0.out) (by simp)
      obtain ⟨c00, c01, c02, cl0⟩ := tb0.facts3
      clear tb0
      go_simp
      exact hK.out _ _ ⟨_, rfl, Only.refl _ _, rfl⟩
    · intro vals wr hR hp K hK
      dsimp only at hK ⊢
      obtain ⟨p0, -⟩ := hp
      replace p0 := p0 rfl
      dsimp only at p0
      rw [p0] at hK ⊢
      clear p0
      unfold RunsOp
      go_simp
      refine (strightr ho HR.out _).mono ?_
      rintro e w2 ⟨rfl, o2⟩
      exact hK.out _ _ ⟨_, rfl, o2, rfl⟩
    · intro vals wr hR hp K hK
      dsimp only at hK ⊢
      obtain ⟨p1, -⟩ := hp
      replace p1 := p1 rfl
      dsimp only at p1
      obtain p1 := p1
      rw [p1] at hK ⊢
      clear p1
      unfold RunsOp
      go_simp
      exact hK.out _ _ ⟨_, rfl, Only.refl _ _, rfl⟩
    · intro vals wr hR hp K hK
      dsimp only at hK ⊢
      obtain ⟨p2, -, -⟩ := hp
      replace p2 := p2 rfl
      dsimp only at p2
      rw [p2] at hK ⊢
      clear p2
      unfold RunsOp
      go_simp
      exact hK.out _ _ ⟨_, rfl, Only.refl _ _, rfl⟩
    · intro vals wr hR hp K hK
      dsimp only at hK ⊢
      obtain ⟨p3, -⟩ := hp
      replace p3 := p3 rfl
      dsimp only at p3
      rw [p3] at hK ⊢
      clear p3
      unfold RunsOp
      have tb0 := hR.blk (by first | exact B0.out | exact Blk.drew B0.out) (by simp)
      obtain ⟨c00, c01, c02, cl0⟩ := tb0.facts3
      clear tb0
      go_simp
      exact hK.out _ _ ⟨_, rfl, Only.refl _ _, rfl⟩
    · intro vals wr hR hp K hK
      dsimp only at hK ⊢
      obtain ⟨p3, -, -⟩ := hp
      replace p3 := p3 rfl
      dsimp only at p3
      rw [p3] at hK ⊢
      clear p3
      unfold RunsOp
      go_simp
      refine (stnever_any _).mono ?_
      rintro e w2 ⟨rfl, o2⟩
      exact hK.out _ _ ⟨_, rfl, o2, rfl⟩
    · intro vals wr hR hp K hK
      dsimp only at hK ⊢
      obtain ⟨p4, p5, p3, -⟩ := hp
      replace p4 := p4 rfl
      replace p5 := p5 rfl
      replace p3 := p3 rfl
      dsimp only at p4 p5 p3
      obtain p5 := p5
      rw [p4, p5, p3] at hK ⊢
      clear p4 p5 p3
      unfold RunsOp
      go_simp
      exact hK.out _ _ ⟨_, rfl, Only.refl _ _, rfl⟩
    · intro vals wr hR hp K hK
      dsimp only at hK ⊢
      obtain ⟨p3, p6, -⟩ := hp
      replace p3 := p3 rfl
      replace p6 := p6 rfl
      dsimp only at p3 p6
      rw [p3, p6] at hK ⊢
      clear p3 p6
      unfold RunsOp
      go_simp
      exact hK.out _ _ ⟨_, rfl, Only.refl _ _, rfl⟩
    · intro vals wr hR hp K hK
      dsimp only at hK ⊢
      obtain ⟨p7, -, -⟩ := hp
      replace p7 := p7 rfl
      dsimp only at p7
      rw [p7] at hK ⊢
      clear p7
      unfold RunsOp
      go_simp
      exact hK.out _ _ ⟨_, rfl, Only.refl _ _, rfl⟩
    · intro vals wr hR hp K hK
      dsimp only at hK ⊢
      obtain ⟨p8, -⟩ := hp
      replace p8 := p8 rfl
      dsimp only at p8
      rw [p8] at hK ⊢
      clear p8
      unfold RunsOp
      have tb1 := hR.blk (by first | exact B1.out | exact Blk.drew B1.out) (by simp)
      obtain ⟨c10, c11, cl1⟩ := tb1.facts2
      clear tb1
      go_simp
      exact hK.out _ _ ⟨_, rfl, Only.refl _ _, rfl⟩
    · intro vals wr hR hp K hK
      dsimp only at hK ⊢
      obtain ⟨p9, p8, -, -⟩ := hp
      replace p9 := p9 rfl
      replace p8 := p8 rfl
      dsimp only at p9 p8
      rw [p9, p8] at hK ⊢
      clear p9 p8
      unfold RunsOp
      go_simp
      refine (rightr to HT.out _).mono ?_
      rintro e w2 ⟨rfl, o2⟩
      exact hK.out _ _ ⟨_, rfl, o2, rfl⟩
    · intro vals wr hR hp K hK
      dsimp only at hK ⊢
      obtain ⟨p10, p8, -⟩ := hp
      replace p10 := p10 rfl
      replace p8 := p8 rfl
      dsimp only at p10 p8
      obtain p10 := p10
      rw [p10, p8] at hK ⊢
      clear p10 p8
      unfold RunsOp
      go_simp
      exact hK.out _ _ ⟨_, rfl, Only.refl _ _, rfl⟩
    · intro vals wr hR hp K hK
      dsimp only at hK ⊢
      obtain ⟨p8, p11, -⟩ := hp
      replace p8 := p8 rfl
      replace p11 := p11 rfl
      dsimp only at p8 p11
      rw [p8, p11] at hK ⊢
      clear p8 p11
      unfold RunsOp
      go_simp
      exact hK.out _ _ ⟨_, rfl, Only.refl _ _, rfl⟩
  intro vals w2 hR hF
  have f12 : vals 12 = .bool false := hF 12 (by decide)
  rw [f12]
  clear hF f12
  refine wpList_nil ?_
  have B0x := hR.blk (t := 27) (cs := #[.int .i64 s.1.1, .int .i64 s.1.2, .int .i64 s.2]) (g := w.heap.size) (by first | exact B0.out | exact Blk.drewN B0.out _ | exact Blk.drew B0.out) (by simp)
  have B1x := hR.blk (t := 23) (cs := #[.int .i64 t.1, .int .i64 t.2]) (g := w.heap.size + 1) (by first | exact B1.out | exact Blk.drewN B1.out _ | exact Blk.drew B1.out) (by simp)
  have B2x := hR.blk (t := 27) (cs := #[.int .i64 0, .int .i64 0, .int .i64 0]) (g := w.heap.size + 2) (by first | exact B2.out | exact Blk.drewN B2.out _ | exact Blk.drew B2.out) (by simp)
  have O2x : Only [] w w2 := (by first | exact Only.trans O1.out hR (by simp) | exact Only.trans (Only.drewN O1.out _) hR (by simp) | exact Only.trans (Only.drew O1.out) hR (by simp))
  obtain ⟨B0c0, B0c1, B0c2, B0l⟩ := B0x.facts3
  obtain ⟨B1c0, B1c1, B1l⟩ := B1x.facts2
  obtain ⟨B2c0, B2c1, B2c2, B2l⟩ := B2x.facts3
  clear B0 B1 B2 O1 hR
  have B0 := Lib.hid B0x; have B1 := Lib.hid B1x; have B2 := Lib.hid B2x; have O2 := Lib.hid O2x
  clear B0x B1x B2x O2x
  go_wp2_with (fail)
  refine wp_region_facts 3 [] (fr := ?frc) (tl := ?tlc) (fun i v wv => match i with
    | 0 => v = .agg #[.int .i64 t.1, .int .i64 t.2]
    | 1 => v = .agg #[.int .i64 1, .int .i64 0]
    | 2 => v = .bool false
    | _ => True) (by kernel_rfl) (by kernel_rfl) (by kernel_rfl) (by kernel_rfl) (by decide) ?htlc ?hfrc ?stabc ?stepsc ?donec
  case htlc => simp only [List.drop_succ_cons, List.drop_zero]; rfl
  case hfrc => intro vals; simp only [putAll, dstAt, Act.put, List.getElem?_toArray, List.getElem?_cons_zero, List.getElem?_cons_succ, Option.bind_some, List.setIfInBounds_toArray, List.set_cons_zero, List.set_cons_succ]; rfl
  case stabc =>
    intro i v wa wb h
    try dsimp only
    split <;> first | exact id | fail
  case stepsc =>
    refine ⟨?_, ?_, ?_, trivial⟩
    · intro vals wr hR hp K hK
      dsimp only at hK ⊢
      clear hp
      unfold RunsOp
      have tb1 := hR.blk (by first | exact B1.out | exact Blk.drew B1.out) (by simp)
      obtain ⟨c10, c11, cl1⟩ := tb1.facts2
      clear tb1
      go_simp
      exact hK.out _ _ ⟨_, rfl, Only.refl _ _, rfl⟩
    · intro vals wr hR hp K hK
      dsimp only at hK ⊢
      clear hp
      unfold RunsOp
      go_simp
      refine (never_any _).mono ?_
      rintro e w2 ⟨rfl, o2⟩
      exact hK.out _ _ ⟨_, rfl, o2, rfl⟩
    · intro vals wr hR hp K hK
      dsimp only at hK ⊢
      obtain ⟨p0, p1, -⟩ := hp
      replace p0 := p0 rfl
      replace p1 := p1 rfl
      dsimp only at p0 p1
      obtain p1 := p1
      rw [p0, p1] at hK ⊢
      clear p0 p1
      unfold RunsOp
      go_simp
      exact hK.out _ _ ⟨_, rfl, Only.refl _ _, rfl⟩
  intro vals w3 hR hF
  have f2 : vals 2 = .bool false := hF 2 (by decide)
  rw [f2]
  clear hF f2
  refine wpList_nil ?_
  have B0x := hR.blk (t := 27) (cs := #[.int .i64 s.1.1, .int .i64 s.1.2, .int .i64 s.2]) (g := w.heap.size) (by first | exact B0.out | exact Blk.drewN B0.out _ | exact Blk.drew B0.out) (by simp)
  have B1x := hR.blk (t := 23) (cs := #[.int .i64 t.1, .int .i64 t.2]) (g := w.heap.size + 1) (by first | exact B1.out | exact Blk.drewN B1.out _ | exact Blk.drew B1.out) (by simp)
  have B2x := hR.blk (t := 27) (cs := #[.int .i64 0, .int .i64 0, .int .i64 0]) (g := w.heap.size + 2) (by first | exact B2.out | exact Blk.drewN B2.out _ | exact Blk.drew B2.out) (by simp)
  have O3x : Only [] w w3 := (by first | exact Only.trans O2.out hR (by simp) | exact Only.trans (Only.drewN O2.out _) hR (by simp) | exact Only.trans (Only.drew O2.out) hR (by simp))
  obtain ⟨B0c0, B0c1, B0c2, B0l⟩ := B0x.facts3
  obtain ⟨B1c0, B1c1, B1l⟩ := B1x.facts2
  obtain ⟨B2c0, B2c1, B2c2, B2l⟩ := B2x.facts3
  clear B0 B1 B2 O2 hR
  have B0 := Lib.hid B0x; have B1 := Lib.hid B1x; have B2 := Lib.hid B2x; have O3 := Lib.hid O3x
  clear B0x B1x B2x O3x
  go_wp2_with (fail)
  refine (addr s.1 t ho.1 to HU.out _).mono ?_
  rintro e w4 ⟨rfl, o⟩
  have B0x := o.blk (t := 27) (cs := #[.int .i64 s.1.1, .int .i64 s.1.2, .int .i64 s.2]) (g := w.heap.size) (by first | exact B0.out | exact Blk.drewN B0.out _ | exact Blk.drew B0.out) (by simp)
  have B1x := o.blk (t := 23) (cs := #[.int .i64 t.1, .int .i64 t.2]) (g := w.heap.size + 1) (by first | exact B1.out | exact Blk.drewN B1.out _ | exact Blk.drew B1.out) (by simp)
  have B2x := o.blk (t := 27) (cs := #[.int .i64 0, .int .i64 0, .int .i64 0]) (g := w.heap.size + 2) (by first | exact B2.out | exact Blk.drewN B2.out _ | exact Blk.drew B2.out) (by simp)
  have O4x : Only [] w w4 := (by first | exact Only.trans O3.out o (by simp) | exact Only.trans (Only.drewN O3.out _) o (by simp) | exact Only.trans (Only.drew O3.out) o (by simp))
  obtain ⟨B0c0, B0c1, B0c2, B0l⟩ := B0x.facts3
  obtain ⟨B1c0, B1c1, B1l⟩ := B1x.facts2
  obtain ⟨B2c0, B2c1, B2c2, B2l⟩ := B2x.facts3
  clear B0 B1 B2 O3 o
  have B0 := Lib.hid B0x; have B1 := Lib.hid B1x; have B2 := Lib.hid B2x; have O4 := Lib.hid O4x
  clear B0x B1x B2x O4x
  have fr0 := B2.out.frozen 0
  have fr1 := B2.out.frozen 1
  have fr2 := B2.out.frozen 2
  go_wp2_with (fail)
  exact bodyPost_ret (v := .tuple #[.agg #[.int .i64 m.1, .int .i64 m.2, .int .i64 0], .int .i64 0]) (by simp [results, Tryd.results13, go_sem, B2c0, B2c1, B2c2, World.cell?_alloc_lt, B2l]) rfl ⟨rfl, (only_three O4.out (by simp; try omega) (by simp; try omega) (by simp; try omega) _ _ _).alloc _⟩

theorem after_any (s : St) (t : Tm) (ho : s.ok) (to : t.ok) (w : World) : Calls Tryd.prog 13 #[.agg #[.int .i64 s.1.1, .int .i64 s.1.2, .int .i64 s.2], .agg #[.int .i64 t.1, .int .i64 t.2]] w fun e w' => e = .returned (.tuple #[.agg #[.int .i64 (afterT s t).1.1.1, .int .i64 (afterT s t).1.1.2, .int .i64 (afterT s t).1.2], .int .i64 (afterT s t).2]) ∧ Only [] w w' := by
  unfold afterT
  by_cases hr : stR s = true
  · by_cases hn : s = ((1, 0), 0)
    · subst hn; rw [if_neg (fun h => h.2.1 rfl)]; exact after_w2 t w
    · by_cases ht : t.right = true
      · rw [if_pos ⟨hr, hn, ht⟩]
        by_cases hq : t = (1, 0)
        · subst hq; rw [if_pos rfl]; exact after_nv s ho hr hn w
        · rw [if_neg hq]
          by_cases h0 : t.1 = 0
          · rw [if_pos h0]; exact after_nx s t ho hr hn to ht hq h0 rfl w
          · rw [if_neg h0]
            by_cases he : (addT s.1 t).2 = 0
            · rw [if_neg (fun h => h he)]; exact after_ok s t ho hr hn to ht hq h0 rfl he w
            · rw [if_pos he]; exact after_ae s t ho hr hn to ht hq h0 rfl he w
      · rw [if_neg (fun h => ht h.2.2)]; exact after_w3 s t ho hr hn to (by simpa using ht) w
  · rw [if_neg (fun h => hr h.1)]; exact after_w1 s t ho (by simpa using hr) w
theorem afterr (s : St) (t : Tm) (ho : s.ok) (to : t.ok) {u : St} {x : Int} (h : afterT s t = (u, x)) (w : World) : Calls Tryd.prog 13 #[.agg #[.int .i64 s.1.1, .int .i64 s.1.2, .int .i64 s.2], .agg #[.int .i64 t.1, .int .i64 t.2]] w fun e w' => e = .returned (.tuple #[.agg #[.int .i64 u.1.1, .int .i64 u.1.2, .int .i64 u.2], .int .i64 x]) ∧ Only [] w w' := by
  have := after_any s t ho to w
  rwa [h] at this
end Go.Proofs.YtoefekgfklillaaDoor
