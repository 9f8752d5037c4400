/- The stamps' laws: awake, Asks, After. -/
import Derived.Test.YtoefekgfklillaaDoorSt4
import Derived.Test.YtoefekgfklillaaDoorFacts2
namespace Go.Proofs.YtoefekgfklillaaDoor
open Go.RowKit Go.Kx
set_option maxRecDepth 20000

theorem eq_st25T (s : St) (W : World) : (binOp .eql 25 (.agg #[.int .i64 s.1.1, .int .i64 s.1.2, .int .i64 s.2]) (.agg #[.int .i64 s.1.1, .int .i64 s.1.2, .int .i64 s.2])).run Tryd.prog W = .ok (.bool true) W := by
  simp [go_sem]
def aS : St := ((1, 2), 3)
def bS : St := ((1, 2), 4)
def cS : St := ((1, 1), 0)
theorem ok_aS : aS.ok := by unfold aS St.ok Tm.ok I64; simp
theorem ok_bS : bS.ok := by unfold bS St.ok Tm.ok I64; simp
theorem ok_cS : cS.ok := by unfold cS St.ok Tm.ok I64; simp
theorem ok_01 : Tm.ok (0, 1) := by unfold Tm.ok I64; simp
theorem ok_12 : Tm.ok (1, 2) := by unfold Tm.ok I64; simp
theorem lessr (a b : St) (ha : a.ok) (hb : b.ok) {x : Int} (h : stC a b = x) {y : Bool} (hy : decide (x = -1) = y) (w : World) : Calls Tryd.prog 11 #[.agg #[.int .i64 a.1.1, .int .i64 a.1.2, .int .i64 a.2], .agg #[.int .i64 b.1.1, .int .i64 b.1.2, .int .i64 b.2]] w fun e w' => e = .returned (.bool y) ∧ Only [] w w' := by
  subst hy
  exact stless_any a b ha hb h w

set_option maxHeartbeats 4000000 in
theorem awake_any   {w : World} (hw : Tab10 w) :
    Calls Tryd.prog 10 #[] w fun e w' => e = .returned (.bool true) ∧ Only [] w w' := by
  have HW := Lib.hid hw
  clear hw
  have O0 := Lib.hid (Only.refl [] w)
  go_enter Tryd.func10, Tryd.ntmps10
  go_wp2_with (fail)
  refine (afterr aS (0, 1) ok_aS ok_01 (u := bS) (x := 0) (by decide) _).mono ?_
  rintro e w1 ⟨rfl, o⟩
  have B0n : Blk (w.alloc (.cells #[.int .i64 1, .int .i64 2, .int .i64 3] 27)) (w.heap.size) 27 #[.int .i64 1, .int .i64 2, .int .i64 3] := (by have h := Blk.new w 27 #[.int .i64 1, .int .i64 2, .int .i64 3]; simpa using h)
  have B0x := o.blk (t := 27) (cs := #[.int .i64 1, .int .i64 2, .int .i64 3]) (g := w.heap.size) (by first | exact B0n | exact Blk.drewN B0n _ | exact Blk.drew B0n) (by simp)
  have O1x : Only [] w w1 := (by first | exact Only.trans (O0.out.alloc _) o (by simp) | exact Only.trans (Only.drewN (O0.out.alloc _) _) o (by simp) | exact Only.trans (Only.drew (O0.out.alloc _)) o (by simp))
  obtain ⟨B0c0, B0c1, B0c2, B0l⟩ := B0x.facts3
  clear B0n O0 o
  have B0 := Lib.hid B0x; have O1 := Lib.hid O1x
  clear B0x O1x
  go_wp2_with (fail)
  refine (afterr aS (1, 2) ok_aS ok_12 (u := cS) (x := 0) (by decide) _).mono ?_
  rintro e w2 ⟨rfl, o⟩
  have B1n : Blk (w1.alloc (.cells #[.int .i64 1, .int .i64 2, .int .i64 4] 27)) (w1.heap.size) 27 #[.int .i64 1, .int .i64 2, .int .i64 4] := (by have h := Blk.new w1 27 #[.int .i64 1, .int .i64 2, .int .i64 4]; simpa using h)
  have B0x := o.blk (t := 27) (cs := #[.int .i64 1, .int .i64 2, .int .i64 3]) (g := w.heap.size) (by first | exact (B0.out.alloc _) | exact Blk.drewN (B0.out.alloc _) _ | exact Blk.drew (B0.out.alloc _)) (by simp)
  have B1x := o.blk (t := 27) (cs := #[.int .i64 1, .int .i64 2, .int .i64 4]) (g := w1.heap.size) (by first | exact B1n | exact Blk.drewN B1n _ | exact Blk.drew B1n) (by simp)
  have O2x : Only [] w w2 := (by first | exact Only.trans (O1.out.alloc _) o (by simp) | exact Only.trans (Only.drewN (O1.out.alloc _) _) o (by simp) | exact Only.trans (Only.drew (O1.out.alloc _)) o (by simp))
  obtain ⟨B0c0, B0c1, B0c2, B0l⟩ := B0x.facts3
  obtain ⟨B1c0, B1c1, B1c2, B1l⟩ := B1x.facts3
  clear B0 B1n O1 o
  have B0 := Lib.hid B0x; have B1 := Lib.hid B1x; have O2 := Lib.hid O2x
  clear B0x B1x O2x
  go_wp2_with (fail)
  refine (sttextr bS ok_bS (l := [49, 47, 50, 43, 52]) (by decide +kernel) (HW.out.only (by first | exact O2.out | exact O2.out.alloc _ | exact (O2.out.alloc _).alloc _))).mono ?_
  rintro e w3 ⟨rfl, o⟩
  have B2n : Blk (w2.alloc (.cells #[.int .i64 1, .int .i64 1, .int .i64 0] 27)) (w2.heap.size) 27 #[.int .i64 1, .int .i64 1, .int .i64 0] := (by have h := Blk.new w2 27 #[.int .i64 1, .int .i64 1, .int .i64 0]; simpa using h)
  have B0x := o.blk (t := 27) (cs := #[.int .i64 1, .int .i64 2, .int .i64 3]) (g := w.heap.size) (by first | exact (B0.out.alloc _) | exact Blk.drewN (B0.out.alloc _) _ | exact Blk.drew (B0.out.alloc _)) (by simp)
  have B1x := o.blk (t := 27) (cs := #[.int .i64 1, .int .i64 2, .int .i64 4]) (g := w1.heap.size) (by first | exact (B1.out.alloc _) | exact Blk.drewN (B1.out.alloc _) _ | exact Blk.drew (B1.out.alloc _)) (by simp)
  have B2x := o.blk (t := 27) (cs := #[.int .i64 1, .int .i64 1, .int .i64 0]) (g := w2.heap.size) (by first | exact B2n | exact Blk.drewN B2n _ | exact Blk.drew B2n) (by simp)
  have O3x : Only [] w w3 := (by first | exact Only.trans (O2.out.alloc _) o (by simp) | exact Only.trans (Only.drewN (O2.out.alloc _) _) o (by simp) | exact Only.trans (Only.drew (O2.out.alloc _)) o (by simp))
  obtain ⟨B0c0, B0c1, B0c2, B0l⟩ := B0x.facts3
  obtain ⟨B1c0, B1c1, B1c2, B1l⟩ := B1x.facts3
  obtain ⟨B2c0, B2c1, B2c2, B2l⟩ := B2x.facts3
  clear B0 B1 B2n O2 o
  have B0 := Lib.hid B0x; have B1 := Lib.hid B1x; have B2 := Lib.hid B2x; have O3 := Lib.hid O3x
  clear B0x B1x B2x O3x
  go_wp2_with (fail)
  refine (sttextr cS ok_cS (l := [49]) (by decide +kernel) (HW.out.only (by first | exact O3.out | exact O3.out.alloc _ | exact (O3.out.alloc _).alloc _))).mono ?_
  rintro e w4 ⟨rfl, o⟩
  have B0x := o.blk (t := 27) (cs := #[.int .i64 1, .int .i64 2, .int .i64 3]) (g := w.heap.size) (by first | exact B0.out | exact Blk.drewN B0.out _ | exact Blk.drew B0.out) (by simp)
  have B1x := o.blk (t := 27) (cs := #[.int .i64 1, .int .i64 2, .int .i64 4]) (g := w1.heap.size) (by first | exact B1.out | exact Blk.drewN B1.out _ | exact Blk.drew B1.out) (by simp)
  have B2x := o.blk (t := 27) (cs := #[.int .i64 1, .int .i64 1, .int .i64 0]) (g := w2.heap.size) (by first | exact B2.out | exact Blk.drewN B2.out _ | exact Blk.drew B2.out) (by simp)
  have O4x : Only [] w w4 := (by first | exact Only.trans O3.out o (by simp) | exact Only.trans (Only.drewN O3.out _) o (by simp) | exact Only.trans (Only.drew O3.out) o (by simp))
  obtain ⟨B0c0, B0c1, B0c2, B0l⟩ := B0x.facts3
  obtain ⟨B1c0, B1c1, B1c2, B1l⟩ := B1x.facts3
  obtain ⟨B2c0, B2c1, B2c2, B2l⟩ := B2x.facts3
  clear B0 B1 B2 O3 o
  have B0 := Lib.hid B0x; have B1 := Lib.hid B1x; have B2 := Lib.hid B2x; have O4 := Lib.hid O4x
  clear B0x B1x B2x O4x
  go_wp2_with (fail)
  refine (lessr aS bS ok_aS ok_bS (x := -1) (by decide) (y := true) (by decide) _).mono ?_
  rintro e w5 ⟨rfl, o⟩
  have B0x := o.blk (t := 27) (cs := #[.int .i64 1, .int .i64 2, .int .i64 3]) (g := w.heap.size) (by first | exact B0.out | exact Blk.drewN B0.out _ | exact Blk.drew B0.out) (by simp)
  have B1x := o.blk (t := 27) (cs := #[.int .i64 1, .int .i64 2, .int .i64 4]) (g := w1.heap.size) (by first | exact B1.out | exact Blk.drewN B1.out _ | exact Blk.drew B1.out) (by simp)
  have B2x := o.blk (t := 27) (cs := #[.int .i64 1, .int .i64 1, .int .i64 0]) (g := w2.heap.size) (by first | exact B2.out | exact Blk.drewN B2.out _ | exact Blk.drew B2.out) (by simp)
  have O5x : Only [] w w5 := (by first | exact Only.trans O4.out o (by simp) | exact Only.trans (Only.drewN O4.out _) o (by simp) | exact Only.trans (Only.drew O4.out) o (by simp))
  obtain ⟨B0c0, B0c1, B0c2, B0l⟩ := B0x.facts3
  obtain ⟨B1c0, B1c1, B1c2, B1l⟩ := B1x.facts3
  obtain ⟨B2c0, B2c1, B2c2, B2l⟩ := B2x.facts3
  clear B0 B1 B2 O4 o
  have B0 := Lib.hid B0x; have B1 := Lib.hid B1x; have B2 := Lib.hid B2x; have O5 := Lib.hid O5x
  clear B0x B1x B2x O5x
  go_wp2_with (fail)
  refine (lessr bS cS ok_bS ok_cS (x := -1) (by decide) (y := true) (by decide) _).mono ?_
  rintro e w6 ⟨rfl, o⟩
  have B0x := o.blk (t := 27) (cs := #[.int .i64 1, .int .i64 2, .int .i64 3]) (g := w.heap.size) (by first | exact B0.out | exact Blk.drewN B0.out _ | exact Blk.drew B0.out) (by simp)
  have B1x := o.blk (t := 27) (cs := #[.int .i64 1, .int .i64 2, .int .i64 4]) (g := w1.heap.size) (by first | exact B1.out | exact Blk.drewN B1.out _ | exact Blk.drew B1.out) (by simp)
  have B2x := o.blk (t := 27) (cs := #[.int .i64 1, .int .i64 1, .int .i64 0]) (g := w2.heap.size) (by first | exact B2.out | exact Blk.drewN B2.out _ | exact Blk.drew B2.out) (by simp)
  have O6x : Only [] w w6 := (by first | exact Only.trans O5.out o (by simp) | exact Only.trans (Only.drewN O5.out _) o (by simp) | exact Only.trans (Only.drew O5.out) o (by simp))
  obtain ⟨B0c0, B0c1, B0c2, B0l⟩ := B0x.facts3
  obtain ⟨B1c0, B1c1, B1c2, B1l⟩ := B1x.facts3
  obtain ⟨B2c0, B2c1, B2c2, B2l⟩ := B2x.facts3
  clear B0 B1 B2 O5 o
  have B0 := Lib.hid B0x; have B1 := Lib.hid B1x; have B2 := Lib.hid B2x; have O6 := Lib.hid O6x
  clear B0x B1x B2x O6x
  go_wp2_with (fail)
  go_ret
  exact ⟨by first | rfl | simp, by first | exact O6.out | exact Only.drewN O6.out _⟩

set_option maxHeartbeats 4000000 in
theorem stasks_all (a b : St) (ha : a.ok) (hb : b.ok) {x : Bool} {y : Int} {l : List UInt8} (h1 : stR a = x) (h2 : stC a b = y) (h3 : stX a = l) {w : World} (hw : Tab10 w) :
    Calls Tryd.prog 4 #[.agg #[.int .i64 a.1.1, .int .i64 a.1.2, .int .i64 a.2], .agg #[.int .i64 b.1.1, .int .i64 b.1.2, .int .i64 b.2]] w fun e w' => e = .returned (.bool true) ∧ Only [] w w' := by
  have H1 := Lib.hid h1
  have H2 := Lib.hid h2
  have H3 := Lib.hid h3
  clear h1 h2 h3
  have HW := Lib.hid hw
  clear hw
  have O0 := Lib.hid (Only.refl [] w)
  go_enter Tryd.func4, Tryd.ntmps4
  have B0 := Lib.hid ((Blk.alloc (by have h := Blk.new w 25 #[.int .i64 a.1.1, .int .i64 a.1.2, .int .i64 a.2]; simpa using h : Blk (w.alloc (.cells #[.int .i64 a.1.1, .int .i64 a.1.2, .int .i64 a.2] 25)) (w.heap.size) 25 #[.int .i64 a.1.1, .int .i64 a.1.2, .int .i64 a.2]) _) : Blk ((w.alloc (.cells #[.int .i64 a.1.1, .int .i64 a.1.2, .int .i64 a.2] 25)).alloc (.cells #[.int .i64 b.1.1, .int .i64 b.1.2, .int .i64 b.2] 25)) (w.heap.size) 25 #[.int .i64 a.1.1, .int .i64 a.1.2, .int .i64 a.2])
  have B1 := Lib.hid ((by have h := Blk.new (w.alloc (.cells #[.int .i64 a.1.1, .int .i64 a.1.2, .int .i64 a.2] 25)) 25 #[.int .i64 b.1.1, .int .i64 b.1.2, .int .i64 b.2]; simpa using h : Blk ((w.alloc (.cells #[.int .i64 a.1.1, .int .i64 a.1.2, .int .i64 a.2] 25)).alloc (.cells #[.int .i64 b.1.1, .int .i64 b.1.2, .int .i64 b.2] 25)) (w.heap.size + 1) 25 #[.int .i64 b.1.1, .int .i64 b.1.2, .int .i64 b.2]) : Blk ((w.alloc (.cells #[.int .i64 a.1.1, .int .i64 a.1.2, .int .i64 a.2] 25)).alloc (.cells #[.int .i64 b.1.1, .int .i64 b.1.2, .int .i64 b.2] 25)) (w.heap.size + 1) 25 #[.int .i64 b.1.1, .int .i64 b.1.2, .int .i64 b.2])
  have O1 := Lib.hid (((O0.out.alloc _).alloc _) : Only [] w ((w.alloc (.cells #[.int .i64 a.1.1, .int .i64 a.1.2, .int .i64 a.2] 25)).alloc (.cells #[.int .i64 b.1.1, .int .i64 b.1.2, .int .i64 b.2] 25)))
  clear O0
  go_wp2_with (fail)
  refine wp_region_facts 28 [] (fr := ?fr) (tl := ?tl) (fun i v wv => match i with
    | 0 => v = .bool true
    | 1 => v = .bool true
    | 2 => v = .agg #[.int .i64 a.1.1, .int .i64 a.1.2, .int .i64 a.2]
    | 3 => v = .agg #[.int .i64 a.1.1, .int .i64 a.1.2, .int .i64 a.2]
    | 4 => v = .bool x
    | 5 => v = .agg #[.int .i64 a.1.1, .int .i64 a.1.2, .int .i64 a.2]
    | 6 => v = .bool x
    | 7 => v = .bool true
    | 8 => v = .bool true
    | 9 => v = .bool true
    | 10 => v = .agg #[.int .i64 a.1.1, .int .i64 a.1.2, .int .i64 a.2]
    | 11 => v = .agg #[.int .i64 a.1.1, .int .i64 a.1.2, .int .i64 a.2]
    | 12 => v = .agg #[.int .i64 b.1.1, .int .i64 b.1.2, .int .i64 b.2]
    | 13 => v = .agg #[.int .i64 b.1.1, .int .i64 b.1.2, .int .i64 b.2]
    | 14 => v = .int .i64 y
    | 15 => v = .agg #[.int .i64 a.1.1, .int .i64 a.1.2, .int .i64 a.2]
    | 16 => v = .agg #[.int .i64 b.1.1, .int .i64 b.1.2, .int .i64 b.2]
    | 17 => v = .int .i64 y
    | 18 => v = .bool true
    | 19 => v = .bool true
    | 20 => v = .bool true
    | 21 => v = .agg #[.int .i64 a.1.1, .int .i64 a.1.2, .int .i64 a.2]
    | 22 => v = .agg #[.int .i64 a.1.1, .int .i64 a.1.2, .int .i64 a.2]
    | 23 => v = .string ⟨l.toArray⟩
    | 24 => v = .agg #[.int .i64 a.1.1, .int .i64 a.1.2, .int .i64 a.2]
    | 25 => v = .string ⟨l.toArray⟩
    | 26 => v = .bool true
    | 27 => v = .bool true
    | _ => True) (by kernel_rfl) (by kernel_rfl) (by kernel_rfl) (by kernel_rfl) (by decide) ?htl ?hfr ?stab ?steps ?done
  case htl => simp only [List.drop_succ_cons, List.drop_zero]; rfl
  case hfr => intro vals; simp only [putAll, dstAt, Act.put, List.getElem?_toArray, List.getElem?_cons_zero, List.getElem?_cons_succ, Option.bind_some, List.setIfInBounds_toArray, List.set_cons_zero, List.set_cons_succ]; rfl
  case stab =>
    intro i v wa wb h
    try dsimp only
    split <;> first | exact id | fail
  case steps =>
    refine ⟨?_, ?_, ?_, ?_, ?_, ?_, ?_, ?_, ?_, ?_, ?_, ?_, ?_, ?_, ?_, ?_, ?_, ?_, ?_, ?_, ?_, ?_, ?_, ?_, ?_, ?_, ?_, ?_, trivial⟩
    · intro vals wr hR hp K hK
      dsimp only at hK ⊢
      clear hp
      unfold RunsOp
      have tt := HW.out.only (Only.trans (by first | exact O1.out.drew | exact (O1.out.drewN _).drew) hR (by simp))
      go_simp
      refine (awake_any tt).mono ?_
      rintro e w2 ⟨rfl, o2⟩
      exact hK.out _ _ ⟨_, rfl, o2, rfl⟩
    · intro vals wr hR hp K hK
      dsimp only at hK ⊢
      obtain ⟨p0, -, -⟩ := hp
      replace p0 := p0 rfl
      dsimp only at p0
      obtain p0 := p0
      rw [p0] at hK ⊢
      clear p0
      unfold RunsOp
      go_simp
      exact hK.out _ _ ⟨_, rfl, Only.refl _ _, rfl⟩
    · intro vals wr hR hp K hK
      dsimp only at hK ⊢
      obtain ⟨p1, -⟩ := hp
      replace p1 := p1 rfl
      dsimp only at p1
      rw [p1] at hK ⊢
      clear p1
      unfold RunsOp
      have tb0 := hR.blk (by first | exact B0.out | exact Blk.drew B0.out) (by simp)
      obtain ⟨c00, c01, c02, cl0⟩ := tb0.facts3
      clear tb0
      go_simp
      exact hK.out _ _ ⟨_, rfl, Only.refl _ _, rfl⟩
    · intro vals wr hR hp K hK
      dsimp only at hK ⊢
      obtain ⟨p2, p1, -, -⟩ := hp
      replace p2 := p2 rfl
      replace p1 := p1 rfl
      dsimp only at p2 p1
      rw [p2, p1] at hK ⊢
      clear p2 p1
      unfold RunsOp
      go_simp
      refine (of_any a _).mono ?_
      rintro e w2 ⟨rfl, o2⟩
      exact hK.out _ _ ⟨_, rfl, o2, rfl⟩
    · intro vals wr hR hp K hK
      dsimp only at hK ⊢
      obtain ⟨p3, -, p1, -⟩ := hp
      replace p3 := p3 rfl
      replace p1 := p1 rfl
      dsimp only at p3 p1
      obtain p3 := p3
      rw [p3, p1] at hK ⊢
      clear p3 p1
      unfold RunsOp
      go_simp
      refine (strightr ha H1.out _).mono ?_
      rintro e w2 ⟨rfl, o2⟩
      exact hK.out _ _ ⟨_, rfl, o2, rfl⟩
    · intro vals wr hR hp K hK
      dsimp only at hK ⊢
      obtain ⟨p1, -⟩ := hp
      replace p1 := p1 rfl
      dsimp only at p1
      rw [p1] at hK ⊢
      clear p1
      unfold RunsOp
      have tb0 := hR.blk (by first | exact B0.out | exact Blk.drew B0.out) (by simp)
      obtain ⟨c00, c01, c02, cl0⟩ := tb0.facts3
      clear tb0
      go_simp
      exact hK.out _ _ ⟨_, rfl, Only.refl _ _, rfl⟩
    · intro vals wr hR hp K hK
      dsimp only at hK ⊢
      obtain ⟨p5, -, p1, -⟩ := hp
      replace p5 := p5 rfl
      replace p1 := p1 rfl
      dsimp only at p5 p1
      rw [p5, p1] at hK ⊢
      clear p5 p1
      unfold RunsOp
      go_simp
      refine (refstr ha H1.out _).mono ?_
      rintro e w2 ⟨rfl, o2⟩
      exact hK.out _ _ ⟨_, rfl, o2, rfl⟩
    · intro vals wr hR hp K hK
      dsimp only at hK ⊢
      obtain ⟨p4, p6, p1, -⟩ := hp
      replace p4 := p4 rfl
      replace p6 := p6 rfl
      replace p1 := p1 rfl
      dsimp only at p4 p6 p1
      obtain p4 := p4
      obtain p6 := p6
      rw [p4, p6, p1] at hK ⊢
      clear p4 p6 p1
      unfold RunsOp
      go_simp
      exact hK.out _ _ ⟨_, rfl, Only.refl _ _, rfl⟩
    · intro vals wr hR hp K hK
      dsimp only at hK ⊢
      obtain ⟨p1, p7, -⟩ := hp
      replace p1 := p1 rfl
      replace p7 := p7 rfl
      dsimp only at p1 p7
      rw [p1, p7] at hK ⊢
      clear p1 p7
      unfold RunsOp
      go_simp
      exact hK.out _ _ ⟨_, rfl, Only.refl _ _, rfl⟩
    · intro vals wr hR hp K hK
      dsimp only at hK ⊢
      obtain ⟨p8, -, -⟩ := hp
      replace p8 := p8 rfl
      dsimp only at p8
      rw [p8] at hK ⊢
      clear p8
      unfold RunsOp
      go_simp
      exact hK.out _ _ ⟨_, rfl, Only.refl _ _, rfl⟩
    · intro vals wr hR hp K hK
      dsimp only at hK ⊢
      obtain ⟨p9, -⟩ := hp
      replace p9 := p9 rfl
      dsimp only at p9
      rw [p9] at hK ⊢
      clear p9
      unfold RunsOp
      have tb0 := hR.blk (by first | exact B0.out | exact Blk.drew B0.out) (by simp)
      obtain ⟨c00, c01, c02, cl0⟩ := tb0.facts3
      clear tb0
      go_simp
      exact hK.out _ _ ⟨_, rfl, Only.refl _ _, rfl⟩
    · intro vals wr hR hp K hK
      dsimp only at hK ⊢
      obtain ⟨p10, p9, -, -⟩ := hp
      replace p10 := p10 rfl
      replace p9 := p9 rfl
      dsimp only at p10 p9
      rw [p10, p9] at hK ⊢
      clear p10 p9
      unfold RunsOp
      go_simp
      refine (of_any a _).mono ?_
      rintro e w2 ⟨rfl, o2⟩
      exact hK.out _ _ ⟨_, rfl, o2, rfl⟩
    · intro vals wr hR hp K hK
      dsimp only at hK ⊢
      obtain ⟨p9, -⟩ := hp
      replace p9 := p9 rfl
      dsimp only at p9
      rw [p9] at hK ⊢
      clear p9
      unfold RunsOp
      have tb1 := hR.blk (by first | exact B1.out | exact Blk.drew B1.out) (by simp)
      obtain ⟨c10, c11, c12, cl1⟩ := tb1.facts3
      clear tb1
      go_simp
      exact hK.out _ _ ⟨_, rfl, Only.refl _ _, rfl⟩
    · intro vals wr hR hp K hK
      dsimp only at hK ⊢
      obtain ⟨p12, -, p9, -⟩ := hp
      replace p12 := p12 rfl
      replace p9 := p9 rfl
      dsimp only at p12 p9
      rw [p12, p9] at hK ⊢
      clear p12 p9
      unfold RunsOp
      go_simp
      refine (of_any b _).mono ?_
      rintro e w2 ⟨rfl, o2⟩
      exact hK.out _ _ ⟨_, rfl, o2, rfl⟩
    · intro vals wr hR hp K hK
      dsimp only at hK ⊢
      obtain ⟨p11, p13, -, p9, -⟩ := hp
      replace p11 := p11 rfl
      replace p13 := p13 rfl
      replace p9 := p9 rfl
      dsimp only at p11 p13 p9
      obtain p11 := p11
      obtain p13 := p13
      rw [p11, p13, p9] at hK ⊢
      clear p11 p13 p9
      unfold RunsOp
      go_simp
      refine (stcmpr a b ha hb H2.out _).mono ?_
      rintro e w2 ⟨rfl, o2⟩
      exact hK.out _ _ ⟨_, rfl, o2, rfl⟩
    · intro vals wr hR hp K hK
      dsimp only at hK ⊢
      obtain ⟨p9, -⟩ := hp
      replace p9 := p9 rfl
      dsimp only at p9
      rw [p9] at hK ⊢
      clear p9
      unfold RunsOp
      have tb0 := hR.blk (by first | exact B0.out | exact Blk.drew B0.out) (by simp)
      obtain ⟨c00, c01, c02, cl0⟩ := tb0.facts3
      clear tb0
      go_simp
      exact hK.out _ _ ⟨_, rfl, Only.refl _ _, rfl⟩
    · intro vals wr hR hp K hK
      dsimp only at hK ⊢
      obtain ⟨p9, -⟩ := hp
      replace p9 := p9 rfl
      dsimp only at p9
      rw [p9] at hK ⊢
      clear p9
      unfold RunsOp
      have tb1 := hR.blk (by first | exact B1.out | exact Blk.drew B1.out) (by simp)
      obtain ⟨c10, c11, c12, cl1⟩ := tb1.facts3
      clear tb1
      go_simp
      exact hK.out _ _ ⟨_, rfl, Only.refl _ _, rfl⟩
    · intro vals wr hR hp K hK
      dsimp only at hK ⊢
      obtain ⟨p15, p16, -, p9, -⟩ := hp
      replace p15 := p15 rfl
      replace p16 := p16 rfl
      replace p9 := p9 rfl
      dsimp only at p15 p16 p9
      rw [p15, p16, p9] at hK ⊢
      clear p15 p16 p9
      unfold RunsOp
      go_simp
      refine (refstcmpr a b ha hb H2.out _).mono ?_
      rintro e w2 ⟨rfl, o2⟩
      exact hK.out _ _ ⟨_, rfl, o2, rfl⟩
    · intro vals wr hR hp K hK
      dsimp only at hK ⊢
      obtain ⟨p14, p17, p9, -⟩ := hp
      replace p14 := p14 rfl
      replace p17 := p17 rfl
      replace p9 := p9 rfl
      dsimp only at p14 p17 p9
      obtain p14 := p14
      obtain p17 := p17
      rw [p14, p17, p9] at hK ⊢
      clear p14 p17 p9
      unfold RunsOp
      go_simp
      exact hK.out _ _ ⟨_, rfl, Only.refl _ _, rfl⟩
    · intro vals wr hR hp K hK
      dsimp only at hK ⊢
      obtain ⟨p9, p18, -⟩ := hp
      replace p9 := p9 rfl
      replace p18 := p18 rfl
      dsimp only at p9 p18
      rw [p9, p18] at hK ⊢
      clear p9 p18
      unfold RunsOp
      go_simp
      exact hK.out _ _ ⟨_, rfl, Only.refl _ _, rfl⟩
    · intro vals wr hR hp K hK
      dsimp only at hK ⊢
      obtain ⟨p19, -, -⟩ := hp
      replace p19 := p19 rfl
      dsimp only at p19
      rw [p19] at hK ⊢
      clear p19
      unfold RunsOp
      go_simp
      exact hK.out _ _ ⟨_, rfl, Only.refl _ _, rfl⟩
    · intro vals wr hR hp K hK
      dsimp only at hK ⊢
      obtain ⟨p20, -⟩ := hp
      replace p20 := p20 rfl
      dsimp only at p20
      rw [p20] at hK ⊢
      clear p20
      unfold RunsOp
      have tb0 := hR.blk (by first | exact B0.out | exact Blk.drew B0.out) (by simp)
      obtain ⟨c00, c01, c02, cl0⟩ := tb0.facts3
      clear tb0
      go_simp
      exact hK.out _ _ ⟨_, rfl, Only.refl _ _, rfl⟩
    · intro vals wr hR hp K hK
      dsimp only at hK ⊢
      obtain ⟨p21, p20, -, -⟩ := hp
      replace p21 := p21 rfl
      replace p20 := p20 rfl
      dsimp only at p21 p20
      rw [p21, p20] at hK ⊢
      clear p21 p20
      unfold RunsOp
      go_simp
      refine (of_any a _).mono ?_
      rintro e w2 ⟨rfl, o2⟩
      exact hK.out _ _ ⟨_, rfl, o2, rfl⟩
    · intro vals wr hR hp K hK
      dsimp only at hK ⊢
      obtain ⟨p22, -, p20, -⟩ := hp
      replace p22 := p22 rfl
      replace p20 := p20 rfl
      dsimp only at p22 p20
      obtain p22 := p22
      rw [p22, p20] at hK ⊢
      clear p22 p20
      unfold RunsOp
      have tt := HW.out.only (Only.trans (by first | exact O1.out.drew | exact (O1.out.drewN _).drew) hR (by simp))
      go_simp
      refine (sttextr a ha H3.out tt).mono ?_
      rintro e w2 ⟨rfl, o2⟩
      exact hK.out _ _ ⟨_, rfl, o2, rfl⟩
    · intro vals wr hR hp K hK
      dsimp only at hK ⊢
      obtain ⟨p20, -⟩ := hp
      replace p20 := p20 rfl
      dsimp only at p20
      rw [p20] at hK ⊢
      clear p20
      unfold RunsOp
      have tb0 := hR.blk (by first | exact B0.out | exact Blk.drew B0.out) (by simp)
      obtain ⟨c00, c01, c02, cl0⟩ := tb0.facts3
      clear tb0
      go_simp
      exact hK.out _ _ ⟨_, rfl, Only.refl _ _, rfl⟩
    · intro vals wr hR hp K hK
      dsimp only at hK ⊢
      obtain ⟨p24, -, p20, -⟩ := hp
      replace p24 := p24 rfl
      replace p20 := p20 rfl
      dsimp only at p24 p20
      rw [p24, p20] at hK ⊢
      clear p24 p20
      unfold RunsOp
      go_simp
      refine (refsttextr a ha H3.out).mono ?_
      rintro e w2 ⟨rfl, o2⟩
      exact hK.out _ _ ⟨_, rfl, o2, rfl⟩
    · intro vals wr hR hp K hK
      dsimp only at hK ⊢
      obtain ⟨p23, p25, p20, -⟩ := hp
      replace p23 := p23 rfl
      replace p25 := p25 rfl
      replace p20 := p20 rfl
      dsimp only at p23 p25 p20
      obtain p23 := p23
      obtain p25 := p25
      rw [p23, p25, p20] at hK ⊢
      clear p23 p25 p20
      unfold RunsOp
      go_simp
      exact hK.out _ _ ⟨_, rfl, Only.refl _ _, rfl⟩
    · intro vals wr hR hp K hK
      dsimp only at hK ⊢
      obtain ⟨p20, p26, -⟩ := hp
      replace p20 := p20 rfl
      replace p26 := p26 rfl
      dsimp only at p20 p26
      rw [p20, p26] at hK ⊢
      clear p20 p26
      unfold RunsOp
      go_simp
      exact hK.out _ _ ⟨_, rfl, Only.refl _ _, rfl⟩
  intro vals w2 hR hF
  have f27 : vals 27 = .bool true := hF 27 (by decide)
  rw [f27]
  clear hF f27
  have B0x := hR.blk (t := 25) (cs := #[.int .i64 a.1.1, .int .i64 a.1.2, .int .i64 a.2]) (g := w.heap.size) (by first | exact B0.out | exact Blk.drewN B0.out _ | exact Blk.drew B0.out) (by simp)
  have B1x := hR.blk (t := 25) (cs := #[.int .i64 b.1.1, .int .i64 b.1.2, .int .i64 b.2]) (g := w.heap.size + 1) (by first | exact B1.out | exact Blk.drewN B1.out _ | exact Blk.drew B1.out) (by simp)
  have O2x : Only [] w w2 := (by first | exact Only.trans O1.out hR (by simp) | exact Only.trans (Only.drewN O1.out _) hR (by simp) | exact Only.trans (Only.drew O1.out) hR (by simp))
  obtain ⟨B0c0, B0c1, B0c2, B0l⟩ := B0x.facts3
  obtain ⟨B1c0, B1c1, B1c2, B1l⟩ := B1x.facts3
  clear B0 B1 O1 hR
  have B0 := Lib.hid B0x; have B1 := Lib.hid B1x; have O2 := Lib.hid O2x
  clear B0x B1x O2x
  go_wp2_with (fail)
  go_ret
  exact ⟨by first | rfl | simp, by first | exact O2.out | exact Only.drewN O2.out _⟩

theorem stasks_any (a b : St) (ha : a.ok) (hb : b.ok) {w : World} (hw : Tab10 w) :
    Calls Tryd.prog 4 #[.agg #[.int .i64 a.1.1, .int .i64 a.1.2, .int .i64 a.2], .agg #[.int .i64 b.1.1, .int .i64 b.1.2, .int .i64 b.2]] w fun e w' => e = .returned (.bool true) ∧ Only [] w w' := stasks_all a b ha hb rfl rfl rfl hw
end Go.Proofs.YtoefekgfklillaaDoor
