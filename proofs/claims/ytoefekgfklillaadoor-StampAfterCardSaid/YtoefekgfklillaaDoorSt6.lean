/- StampAfter: the law's own walk. -/
import Derived.Test.YtoefekgfklillaaDoorSt5
namespace Go.Proofs.YtoefekgfklillaaDoor
open Go.RowKit Go.Kx
set_option maxRecDepth 20000

theorem after_one (s : St) : afterT s (0, 1) = nextT s := by
  unfold afterT nextT
  have h1 : Tm.right (0, 1) = true := by decide
  by_cases h : stR s = true ∧ s ≠ ((1, 0), 0)
  · rw [if_pos ⟨h.1, h.2, h1⟩, if_neg (show ((0, 1) : Tm) ≠ (1, 0) by decide), if_pos rfl]
  · rw [if_neg (fun k => h ⟨k.1, k.2.1⟩), if_neg h]

set_option maxHeartbeats 4000000 in
theorem stafter_all (a : St) (t : Tm) (ha : a.ok) (to : t.ok) {u q : St} {x y : Int} (h1 : afterT a t = (u, x)) (h2 : nextT a = (q, y)) {w : World} (hw : Tab10 w) :
    Calls Tryd.prog 5 #[.agg #[.int .i64 a.1.1, .int .i64 a.1.2, .int .i64 a.2], .agg #[.int .i64 t.1, .int .i64 t.2]] w fun e w' => e = .returned (.bool true) ∧ Only [] w w' := by
  have H1 := Lib.hid h1
  have H2 := Lib.hid h2
  have H3 := Lib.hid ((after_one a).trans h2)
  have hU := eq_st25T u
  have hV := eq_st25T q
  clear h1 h2
  have HW := Lib.hid hw
  clear hw
  have O0 := Lib.hid (Only.refl [] w)
  go_enter Tryd.func5, Tryd.ntmps5
  have B0 := Lib.hid ((Blk.alloc (by have h := Blk.new w 25 #[.int .i64 a.1.1, .int .i64 a.1.2, .int .i64 a.2]; simpa using h : Blk (w.alloc (.cells #[.int .i64 a.1.1, .int .i64 a.1.2, .int .i64 a.2] 25)) (w.heap.size) 25 #[.int .i64 a.1.1, .int .i64 a.1.2, .int .i64 a.2]) _) : Blk ((w.alloc (.cells #[.int .i64 a.1.1, .int .i64 a.1.2, .int .i64 a.2] 25)).alloc (.cells #[.int .i64 t.1, .int .i64 t.2] 23)) (w.heap.size) 25 #[.int .i64 a.1.1, .int .i64 a.1.2, .int .i64 a.2])
  have B1 := Lib.hid ((by have h := Blk.new (w.alloc (.cells #[.int .i64 a.1.1, .int .i64 a.1.2, .int .i64 a.2] 25)) 23 #[.int .i64 t.1, .int .i64 t.2]; simpa using h : Blk ((w.alloc (.cells #[.int .i64 a.1.1, .int .i64 a.1.2, .int .i64 a.2] 25)).alloc (.cells #[.int .i64 t.1, .int .i64 t.2] 23)) (w.heap.size + 1) 23 #[.int .i64 t.1, .int .i64 t.2]) : Blk ((w.alloc (.cells #[.int .i64 a.1.1, .int .i64 a.1.2, .int .i64 a.2] 25)).alloc (.cells #[.int .i64 t.1, .int .i64 t.2] 23)) (w.heap.size + 1) 23 #[.int .i64 t.1, .int .i64 t.2])
  have O1 := Lib.hid (((O0.out.alloc _).alloc _) : Only [] w ((w.alloc (.cells #[.int .i64 a.1.1, .int .i64 a.1.2, .int .i64 a.2] 25)).alloc (.cells #[.int .i64 t.1, .int .i64 t.2] 23)))
  clear O0
  go_wp2_with (fail)
  refine wp_region_factsD 8 [6] [] (fr := ?fr) (tl := ?tl) (fun i v wv => match i with
    | 0 => v = .agg #[.int .i64 a.1.1, .int .i64 a.1.2, .int .i64 a.2]
    | 1 => v = .agg #[.int .i64 a.1.1, .int .i64 a.1.2, .int .i64 a.2]
    | 2 => v = .agg #[.int .i64 t.1, .int .i64 t.2]
    | 3 => v = .tuple #[.agg #[.int .i64 u.1.1, .int .i64 u.1.2, .int .i64 u.2], .int .i64 x]
    | 4 => v = .tuple #[.agg #[.int .i64 u.1.1, .int .i64 u.1.2, .int .i64 u.2], .int .i64 x]
    | 5 => v = .agg #[.int .i64 u.1.1, .int .i64 u.1.2, .int .i64 u.2]
    | 6 => v = .int .i64 x
    | 7 => ∃ g, w.heap.size + 2 ≤ g ∧ v = .pointer (some ⟨g, 0, none⟩) ∧ Blk wv g 27 #[.int .i64 0, .int .i64 0, .int .i64 0]
    | _ => True) (by kernel_rfl) (by kernel_rfl) (by kernel_rfl) (by kernel_rfl) (by kernel_rfl) (by kernel_rfl) (by decide) (fun _ _ _ _ _ h => h) ?htl ?hfr ?stab ?dets ?steps ?done
  case htl => simp only [List.drop_succ_cons, List.drop_zero]; rfl
  case hfr => intro vals; simp only [putAll, dstAt, Act.put, List.getElem?_toArray, List.getElem?_cons_zero, List.getElem?_cons_succ, Option.bind_some, List.setIfInBounds_toArray, List.set_cons_zero, List.set_cons_succ]; rfl
  case stab =>
    intro i v wa wb h
    try dsimp only
    split <;> first | exact id | (rintro ⟨g, hg, e, hb⟩; exact ⟨g, hg, e, h.blk hb (by simp)⟩)
  case dets =>
    refine ⟨?_, trivial⟩
    · intro o ho vals wr hR hp
      cases ho
      obtain ⟨p4, -, -⟩ := hp
      replace p4 := p4 rfl
      dsimp only at p4
      dsimp only
      rw [p4]
      refine ⟨.int .i64 x, Or.inl ⟨by rfl, fun wz => ?_⟩, rfl⟩
      go_simp
  case steps =>
    refine ⟨?_, ?_, ?_, ?_, ?_, ?_, ?_, ?_, trivial⟩
    · refine .inr ?_
      intro vals wr hR hp K hK
      dsimp only at hK ⊢
      clear hp
      unfold RunsOp
      have tb0 := hR.blk (by first | exact B0.out | exact Blk.drew B0.out) (by simp)
      obtain ⟨c00, c01, c02, cl0⟩ := tb0.facts3
      clear tb0
      go_simp
      exact hK.out _ _ ⟨_, rfl, Only.refl _ _, rfl⟩
    · refine .inr ?_
      intro vals wr hR hp K hK
      dsimp only at hK ⊢
      obtain ⟨p0, -⟩ := hp
      replace p0 := p0 rfl
      dsimp only at p0
      rw [p0] at hK ⊢
      clear p0
      unfold RunsOp
      go_simp
      refine (of_any a _).mono ?_
      rintro e w2 ⟨rfl, o2⟩
      exact hK.out _ _ ⟨_, rfl, o2, rfl⟩
    · refine .inr ?_
      intro vals wr hR hp K hK
      dsimp only at hK ⊢
      clear hp
      unfold RunsOp
      have tb1 := hR.blk (by first | exact B1.out | exact Blk.drew B1.out) (by simp)
      obtain ⟨c10, c11, cl1⟩ := tb1.facts2
      clear tb1
      go_simp
      exact hK.out _ _ ⟨_, rfl, Only.refl _ _, rfl⟩
    · refine .inr ?_
      intro vals wr hR hp K hK
      dsimp only at hK ⊢
      obtain ⟨p1, p2, -, -⟩ := hp
      replace p1 := p1 rfl
      replace p2 := p2 rfl
      dsimp only at p1 p2
      obtain p1 := p1
      rw [p1, p2] at hK ⊢
      clear p1 p2
      unfold RunsOp
      go_simp
      refine (afterr a t ha to H1.out _).mono ?_
      rintro e w2 ⟨rfl, o2⟩
      exact hK.out _ _ ⟨_, rfl, o2, rfl⟩
    · refine .inr ?_
      intro vals wr hR hp K hK
      dsimp only at hK ⊢
      obtain ⟨p3, -⟩ := hp
      replace p3 := p3 rfl
      dsimp only at p3
      obtain p3 := p3
      rw [p3] at hK ⊢
      clear p3
      unfold RunsOp
      go_simp
      exact hK.out _ _ ⟨_, rfl, Only.refl _ _, rfl⟩
    · refine .inr ?_
      intro vals wr hR hp K hK
      dsimp only at hK ⊢
      obtain ⟨p4, -⟩ := hp
      replace p4 := p4 rfl
      dsimp only at p4
      rw [p4] at hK ⊢
      clear p4
      unfold RunsOp
      go_simp
      exact hK.out _ _ ⟨_, rfl, Only.refl _ _, rfl⟩
    · exact .inl (by decide)
    · refine .inr ?_
      intro vals wr hR hp K hK
      dsimp only at hK ⊢
      clear hp
      unfold RunsOp
      have hsz := hR.size
      go_simp
      exact hK.out _ _ ⟨_, rfl, (Only.refl [] wr).alloc _, ⟨_, by simp at hsz; omega, rfl, Blk.new wr 27 _⟩⟩
  intro vals w2 hR hF
  have f5 : vals 5 = .agg #[.int .i64 u.1.1, .int .i64 u.1.2, .int .i64 u.2] := hF 5 (by decide)
  have f6 : vals 6 = .int .i64 x := hF 6 (by decide)
  have f7 : ∃ g, w.heap.size + 2 ≤ g ∧ (vals 7) = .pointer (some ⟨g, 0, none⟩) ∧ Blk w2 g 27 #[.int .i64 0, .int .i64 0, .int .i64 0] := hF 7 (by decide)
  rw [f5, f6]
  clear hF f5 f6
  have B0x := hR.blk (t := 25) (cs := #[.int .i64 a.1.1, .int .i64 a.1.2, .int .i64 a.2]) (g := w.heap.size) (by first | exact B0.out | exact Blk.drewN B0.out _ | exact Blk.drew B0.out) (by simp)
  have B1x := hR.blk (t := 23) (cs := #[.int .i64 t.1, .int .i64 t.2]) (g := w.heap.size + 1) (by first | exact B1.out | exact Blk.drewN B1.out _ | exact Blk.drew B1.out) (by simp)
  have O2x : Only [] w w2 := (by first | exact Only.trans O1.out hR (by simp) | exact Only.trans (Only.drewN O1.out _) hR (by simp) | exact Only.trans (Only.drew O1.out) hR (by simp))
  obtain ⟨B0c0, B0c1, B0c2, B0l⟩ := B0x.facts3
  obtain ⟨B1c0, B1c1, B1l⟩ := B1x.facts2
  clear B0 B1 O1 hR
  have B0 := Lib.hid B0x; have B1 := Lib.hid B1x; have O2 := Lib.hid O2x
  clear B0x B1x O2x
  obtain ⟨g, hg, e7, hb7⟩ := f7
  rw [e7]
  clear e7
  obtain ⟨B2c0, B2c1, B2c2, B2l⟩ := hb7.facts3
  have fr0 := hb7.frozen 0
  have fr1 := hb7.frozen 1
  have fr2 := hb7.frozen 2
  have B2 := Lib.hid hb7
  clear hb7
  have n0 : ¬ g = w.heap.size := by omega
  have n1 : ¬ g = w.heap.size + 1 := by omega
  have n0' : ¬ w.heap.size = g := by omega
  have n1' : ¬ w.heap.size + 1 = g := by omega
  go_wp2_with (fail)
  obtain ⟨wb, hwb⟩ : ∃ wb, (((w2.setCell ⟨g, 0, none⟩ (.int .i64 u.1.1)).setCell ⟨g, 1, none⟩ (.int .i64 u.1.2)).setCell ⟨g, 2, none⟩ (.int .i64 u.2)) = wb := ⟨_, rfl⟩
  rw [hwb]
  have B0x : Blk wb (w.heap.size) 25 #[.int .i64 a.1.1, .int .i64 a.1.2, .int .i64 a.2] := by rw [← hwb]; exact (((B0.out.far n0' _).far n0' _).far n0' _)
  have B1x : Blk wb (w.heap.size + 1) 23 #[.int .i64 t.1, .int .i64 t.2] := by rw [← hwb]; exact (((B1.out.far n1' _).far n1' _).far n1' _)
  have B2x : Blk wb (g) 27 #[.int .i64 u.1.1, .int .i64 u.1.2, .int .i64 u.2] := by rw [← hwb]; exact (((B2.out.set_ 0 _).set_ 1 _).set_ 2 _)
  have O3x : Only [] w wb := by rw [← hwb]; exact (((O2.out.setCell (.inr (by simp; omega)) _).setCell (.inr (by simp; omega)) _).setCell (.inr (by simp; omega)) _)
  clear B0 B1 B2 O2 hwb B0c0 B0c1 B0c2 B0l B1c0 B1c1 B1l B2c0 B2c1 B2c2 B2l
  have B0 := Lib.hid B0x; have B1 := Lib.hid B1x; have B2 := Lib.hid B2x; have O3 := Lib.hid O3x
  clear B0x B1x B2x O3x
  clear fr0 fr1 fr2
  refine (refafterr a t ha to H1.out _).mono ?_
  rintro e w4 ⟨rfl, o⟩
  have B0x := o.blk (t := 25) (cs := #[.int .i64 a.1.1, .int .i64 a.1.2, .int .i64 a.2]) (g := w.heap.size) (by first | exact B0.out | exact Blk.drewN B0.out _ | exact Blk.drew B0.out) (by simp)
  have B1x := o.blk (t := 23) (cs := #[.int .i64 t.1, .int .i64 t.2]) (g := w.heap.size + 1) (by first | exact B1.out | exact Blk.drewN B1.out _ | exact Blk.drew B1.out) (by simp)
  have B2x := o.blk (t := 27) (cs := #[.int .i64 u.1.1, .int .i64 u.1.2, .int .i64 u.2]) (g := g) (by first | exact B2.out | exact Blk.drewN B2.out _ | exact Blk.drew B2.out) (by simp)
  have O4x : Only [] w w4 := (by first | exact Only.trans O3.out o (by simp) | exact Only.trans (Only.drewN O3.out _) o (by simp) | exact Only.trans (Only.drew O3.out) o (by simp))
  obtain ⟨B0c0, B0c1, B0c2, B0l⟩ := B0x.facts3
  obtain ⟨B1c0, B1c1, B1l⟩ := B1x.facts2
  obtain ⟨B2c0, B2c1, B2c2, B2l⟩ := B2x.facts3
  clear B0 B1 B2 O3 o
  have B0 := Lib.hid B0x; have B1 := Lib.hid B1x; have B2 := Lib.hid B2x; have O4 := Lib.hid O4x
  clear B0x B1x B2x O4x
  go_wp2_with (fail)
  refine (of_any a _).mono ?_
  rintro e w5 ⟨rfl, o⟩
  have B3n : Blk (w4.alloc (.cells #[.int .i64 u.1.1, .int .i64 u.1.2, .int .i64 u.2] 25)) (w4.heap.size) 25 #[.int .i64 u.1.1, .int .i64 u.1.2, .int .i64 u.2] := (by have h := Blk.new w4 25 #[.int .i64 u.1.1, .int .i64 u.1.2, .int .i64 u.2]; simpa using h)
  have B0x := o.blk (t := 25) (cs := #[.int .i64 a.1.1, .int .i64 a.1.2, .int .i64 a.2]) (g := w.heap.size) (by first | exact (B0.out.alloc _) | exact Blk.drewN (B0.out.alloc _) _ | exact Blk.drew (B0.out.alloc _)) (by simp)
  have B1x := o.blk (t := 23) (cs := #[.int .i64 t.1, .int .i64 t.2]) (g := w.heap.size + 1) (by first | exact (B1.out.alloc _) | exact Blk.drewN (B1.out.alloc _) _ | exact Blk.drew (B1.out.alloc _)) (by simp)
  have B2x := o.blk (t := 27) (cs := #[.int .i64 u.1.1, .int .i64 u.1.2, .int .i64 u.2]) (g := g) (by first | exact (B2.out.alloc _) | exact Blk.drewN (B2.out.alloc _) _ | exact Blk.drew (B2.out.alloc _)) (by simp)
  have B3x := o.blk (t := 25) (cs := #[.int .i64 u.1.1, .int .i64 u.1.2, .int .i64 u.2]) (g := w4.heap.size) (by first | exact B3n | exact Blk.drewN B3n _ | exact Blk.drew B3n) (by simp)
  have O5x : Only [] w w5 := (by first | exact Only.trans (O4.out.alloc _) o (by simp) | exact Only.trans (Only.drewN (O4.out.alloc _) _) o (by simp) | exact Only.trans (Only.drew (O4.out.alloc _)) o (by simp))
  obtain ⟨B0c0, B0c1, B0c2, B0l⟩ := B0x.facts3
  obtain ⟨B1c0, B1c1, B1l⟩ := B1x.facts2
  obtain ⟨B2c0, B2c1, B2c2, B2l⟩ := B2x.facts3
  obtain ⟨B3c0, B3c1, B3c2, B3l⟩ := B3x.facts3
  clear B0 B1 B2 B3n O4 o
  have B0 := Lib.hid B0x; have B1 := Lib.hid B1x; have B2 := Lib.hid B2x; have B3 := Lib.hid B3x; have O5 := Lib.hid O5x
  clear B0x B1x B2x B3x O5x
  go_wp2_with (fail)
  refine (nextr a ha H2.out _).mono ?_
  rintro e w6 ⟨rfl, o⟩
  have B0x := o.blk (t := 25) (cs := #[.int .i64 a.1.1, .int .i64 a.1.2, .int .i64 a.2]) (g := w.heap.size) (by first | exact B0.out | exact Blk.drewN B0.out _ | exact Blk.drew B0.out) (by simp)
  have B1x := o.blk (t := 23) (cs := #[.int .i64 t.1, .int .i64 t.2]) (g := w.heap.size + 1) (by first | exact B1.out | exact Blk.drewN B1.out _ | exact Blk.drew B1.out) (by simp)
  have B2x := o.blk (t := 27) (cs := #[.int .i64 u.1.1, .int .i64 u.1.2, .int .i64 u.2]) (g := g) (by first | exact B2.out | exact Blk.drewN B2.out _ | exact Blk.drew B2.out) (by simp)
  have B3x := o.blk (t := 25) (cs := #[.int .i64 u.1.1, .int .i64 u.1.2, .int .i64 u.2]) (g := w4.heap.size) (by first | exact B3.out | exact Blk.drewN B3.out _ | exact Blk.drew B3.out) (by simp)
  have O6x : Only [] w w6 := (by first | exact Only.trans O5.out o (by simp) | exact Only.trans (Only.drewN O5.out _) o (by simp) | exact Only.trans (Only.drew O5.out) o (by simp))
  obtain ⟨B0c0, B0c1, B0c2, B0l⟩ := B0x.facts3
  obtain ⟨B1c0, B1c1, B1l⟩ := B1x.facts2
  obtain ⟨B2c0, B2c1, B2c2, B2l⟩ := B2x.facts3
  obtain ⟨B3c0, B3c1, B3c2, B3l⟩ := B3x.facts3
  clear B0 B1 B2 B3 O5 o
  have B0 := Lib.hid B0x; have B1 := Lib.hid B1x; have B2 := Lib.hid B2x; have B3 := Lib.hid B3x; have O6 := Lib.hid O6x
  clear B0x B1x B2x B3x O6x
  go_wp2_with (fail)
  refine (refafterr a (0, 1) ha ok_01 H3.out _).mono ?_
  rintro e w7 ⟨rfl, o⟩
  have B4n : Blk (w6.alloc (.cells #[.int .i64 q.1.1, .int .i64 q.1.2, .int .i64 q.2] 27)) (w6.heap.size) 27 #[.int .i64 q.1.1, .int .i64 q.1.2, .int .i64 q.2] := (by have h := Blk.new w6 27 #[.int .i64 q.1.1, .int .i64 q.1.2, .int .i64 q.2]; simpa using h)
  have B0x := o.blk (t := 25) (cs := #[.int .i64 a.1.1, .int .i64 a.1.2, .int .i64 a.2]) (g := w.heap.size) (by first | exact (B0.out.alloc _) | exact Blk.drewN (B0.out.alloc _) _ | exact Blk.drew (B0.out.alloc _)) (by simp)
  have B1x := o.blk (t := 23) (cs := #[.int .i64 t.1, .int .i64 t.2]) (g := w.heap.size + 1) (by first | exact (B1.out.alloc _) | exact Blk.drewN (B1.out.alloc _) _ | exact Blk.drew (B1.out.alloc _)) (by simp)
  have B2x := o.blk (t := 27) (cs := #[.int .i64 u.1.1, .int .i64 u.1.2, .int .i64 u.2]) (g := g) (by first | exact (B2.out.alloc _) | exact Blk.drewN (B2.out.alloc _) _ | exact Blk.drew (B2.out.alloc _)) (by simp)
  have B3x := o.blk (t := 25) (cs := #[.int .i64 u.1.1, .int .i64 u.1.2, .int .i64 u.2]) (g := w4.heap.size) (by first | exact (B3.out.alloc _) | exact Blk.drewN (B3.out.alloc _) _ | exact Blk.drew (B3.out.alloc _)) (by simp)
  have B4x := o.blk (t := 27) (cs := #[.int .i64 q.1.1, .int .i64 q.1.2, .int .i64 q.2]) (g := w6.heap.size) (by first | exact B4n | exact Blk.drewN B4n _ | exact Blk.drew B4n) (by simp)
  have O7x : Only [] w w7 := (by first | exact Only.trans (O6.out.alloc _) o (by simp) | exact Only.trans (Only.drewN (O6.out.alloc _) _) o (by simp) | exact Only.trans (Only.drew (O6.out.alloc _)) o (by simp))
  obtain ⟨B0c0, B0c1, B0c2, B0l⟩ := B0x.facts3
  obtain ⟨B1c0, B1c1, B1l⟩ := B1x.facts2
  obtain ⟨B2c0, B2c1, B2c2, B2l⟩ := B2x.facts3
  obtain ⟨B3c0, B3c1, B3c2, B3l⟩ := B3x.facts3
  obtain ⟨B4c0, B4c1, B4c2, B4l⟩ := B4x.facts3
  clear B0 B1 B2 B3 B4n O6 o
  have B0 := Lib.hid B0x; have B1 := Lib.hid B1x; have B2 := Lib.hid B2x; have B3 := Lib.hid B3x; have B4 := Lib.hid B4x; have O7 := Lib.hid O7x
  clear B0x B1x B2x B3x B4x O7x
  have B0y : Blk (w7.alloc (.cells #[.int .i64 q.1.1, .int .i64 q.1.2, .int .i64 q.2] 25)) (w.heap.size) 25 #[.int .i64 a.1.1, .int .i64 a.1.2, .int .i64 a.2] := (B0.out.alloc _)
  clear B0
  have B0 := Lib.hid B0y
  clear B0y
  have B1y : Blk (w7.alloc (.cells #[.int .i64 q.1.1, .int .i64 q.1.2, .int .i64 q.2] 25)) (w.heap.size + 1) 23 #[.int .i64 t.1, .int .i64 t.2] := (B1.out.alloc _)
  clear B1
  have B1 := Lib.hid B1y
  clear B1y
  have B2y : Blk (w7.alloc (.cells #[.int .i64 q.1.1, .int .i64 q.1.2, .int .i64 q.2] 25)) (g) 27 #[.int .i64 u.1.1, .int .i64 u.1.2, .int .i64 u.2] := (B2.out.alloc _)
  clear B2
  have B2 := Lib.hid B2y
  clear B2y
  have B3y : Blk (w7.alloc (.cells #[.int .i64 q.1.1, .int .i64 q.1.2, .int .i64 q.2] 25)) (w4.heap.size) 25 #[.int .i64 u.1.1, .int .i64 u.1.2, .int .i64 u.2] := (B3.out.alloc _)
  clear B3
  have B3 := Lib.hid B3y
  clear B3y
  have B4y : Blk (w7.alloc (.cells #[.int .i64 q.1.1, .int .i64 q.1.2, .int .i64 q.2] 25)) (w6.heap.size) 27 #[.int .i64 q.1.1, .int .i64 q.1.2, .int .i64 q.2] := (B4.out.alloc _)
  clear B4
  have B4 := Lib.hid B4y
  clear B4y
  have B5 := Lib.hid ((by have h := Blk.new w7 25 #[.int .i64 q.1.1, .int .i64 q.1.2, .int .i64 q.2]; simpa using h : Blk (w7.alloc (.cells #[.int .i64 q.1.1, .int .i64 q.1.2, .int .i64 q.2] 25)) (w7.heap.size) 25 #[.int .i64 q.1.1, .int .i64 q.1.2, .int .i64 q.2]) : Blk (w7.alloc (.cells #[.int .i64 q.1.1, .int .i64 q.1.2, .int .i64 q.2] 25)) (w7.heap.size) 25 #[.int .i64 q.1.1, .int .i64 q.1.2, .int .i64 q.2])
  have O8 := Lib.hid ((O7.out.alloc _) : Only [] w (w7.alloc (.cells #[.int .i64 q.1.1, .int .i64 q.1.2, .int .i64 q.2] 25)))
  clear O7
  go_wp2_with (fail)
  refine wp_region_facts 23 [] (fr := ?frz) (tl := ?tlz) (fun i v wv => match i with
    | 0 => v = .bool true
    | 1 => v = .bool true
    | 2 => v = .agg #[.int .i64 u.1.1, .int .i64 u.1.2, .int .i64 u.2]
    | 3 => v = .agg #[.int .i64 u.1.1, .int .i64 u.1.2, .int .i64 u.2]
    | 4 => v = .agg #[.int .i64 u.1.1, .int .i64 u.1.2, .int .i64 u.2]
    | 5 => v = .bool true
    | 6 => v = .bool true
    | 7 => v = .bool true
    | 8 => v = .int .i64 x
    | 9 => v = .int .i64 x
    | 10 => v = .bool true
    | 11 => v = .bool true
    | 12 => v = .bool true
    | 13 => v = .agg #[.int .i64 q.1.1, .int .i64 q.1.2, .int .i64 q.2]
    | 14 => v = .agg #[.int .i64 q.1.1, .int .i64 q.1.2, .int .i64 q.2]
    | 15 => v = .agg #[.int .i64 q.1.1, .int .i64 q.1.2, .int .i64 q.2]
    | 16 => v = .bool true
    | 17 => v = .bool true
    | 18 => v = .bool true
    | 19 => v = .int .i64 y
    | 20 => v = .int .i64 y
    | 21 => v = .bool true
    | 22 => v = .bool true
    | _ => True) (by kernel_rfl) (by kernel_rfl) (by kernel_rfl) (by kernel_rfl) (by decide) ?htlz ?hfrz ?stabz ?stepsz ?donez
  case htlz => simp only [List.drop_succ_cons, List.drop_zero]; rfl
  case hfrz => intro vals; simp only [putAll, dstAt, Act.put, List.getElem?_toArray, List.getElem?_cons_zero, List.getElem?_cons_succ, Option.bind_some, List.setIfInBounds_toArray, List.set_cons_zero, List.set_cons_succ]; rfl
  case stabz =>
    intro i v wa wb h
    try dsimp only
    split <;> first | exact id | fail
  case stepsz =>
    refine ⟨?_, ?_, ?_, ?_, ?_, ?_, ?_, ?_, ?_, ?_, ?_, ?_, ?_, ?_, ?_, ?_, ?_, ?_, ?_, ?_, ?_, ?_, ?_, trivial⟩
    · intro vals wr hR hp K hK
      dsimp only at hK ⊢
      clear hp
      unfold RunsOp
      have tt := HW.out.only (Only.trans (by first | exact O8.out.drew | exact (O8.out.drewN _).drew) hR (by simp))
      go_simp
      refine (awake_any tt).mono ?_
      rintro e w2 ⟨rfl, o2⟩
      exact hK.out _ _ ⟨_, rfl, o2, rfl⟩
    · intro vals wr hR hp K hK
      dsimp only at hK ⊢
      obtain ⟨p0, -, -⟩ := hp
      replace p0 := p0 rfl
      dsimp only at p0
      obtain p0 := p0
      rw [p0] at hK ⊢
      clear p0
      unfold RunsOp
      go_simp
      exact hK.out _ _ ⟨_, rfl, Only.refl _ _, rfl⟩
    · intro vals wr hR hp K hK
      dsimp only at hK ⊢
      obtain ⟨p1, -⟩ := hp
      replace p1 := p1 rfl
      dsimp only at p1
      rw [p1] at hK ⊢
      clear p1
      unfold RunsOp
      have tb2 := hR.blk (by first | exact B2.out | exact Blk.drew B2.out) (by simp)
      obtain ⟨c20, c21, c22, cl2⟩ := tb2.facts3
      clear tb2
      go_simp
      exact hK.out _ _ ⟨_, rfl, Only.refl _ _, rfl⟩
    · intro vals wr hR hp K hK
      dsimp only at hK ⊢
      obtain ⟨p2, p1, -, -⟩ := hp
      replace p2 := p2 rfl
      replace p1 := p1 rfl
      dsimp only at p2 p1
      rw [p2, p1] at hK ⊢
      clear p2 p1
      unfold RunsOp
      go_simp
      refine (plain_any u _).mono ?_
      rintro e w2 ⟨rfl, o2⟩
      exact hK.out _ _ ⟨_, rfl, o2, rfl⟩
    · intro vals wr hR hp K hK
      dsimp only at hK ⊢
      obtain ⟨p1, -⟩ := hp
      replace p1 := p1 rfl
      dsimp only at p1
      rw [p1] at hK ⊢
      clear p1
      unfold RunsOp
      have tb3 := hR.blk (by first | exact B3.out | exact Blk.drew B3.out) (by simp)
      obtain ⟨c30, c31, c32, cl3⟩ := tb3.facts3
      clear tb3
      go_simp
      exact hK.out _ _ ⟨_, rfl, Only.refl _ _, rfl⟩
    · intro vals wr hR hp K hK
      dsimp only at hK ⊢
      obtain ⟨p3, p4, p1, -⟩ := hp
      replace p3 := p3 rfl
      replace p4 := p4 rfl
      replace p1 := p1 rfl
      dsimp only at p3 p4 p1
      obtain p3 := p3
      rw [p3, p4, p1] at hK ⊢
      clear p3 p4 p1
      unfold RunsOp
      go_simp
      exact hK.out _ _ ⟨_, rfl, Only.refl _ _, rfl⟩
    · intro vals wr hR hp K hK
      dsimp only at hK ⊢
      obtain ⟨p1, p5, -⟩ := hp
      replace p1 := p1 rfl
      replace p5 := p5 rfl
      dsimp only at p1 p5
      rw [p1, p5] at hK ⊢
      clear p1 p5
      unfold RunsOp
      go_simp
      exact hK.out _ _ ⟨_, rfl, Only.refl _ _, rfl⟩
    · intro vals wr hR hp K hK
      dsimp only at hK ⊢
      obtain ⟨p6, -, -⟩ := hp
      replace p6 := p6 rfl
      dsimp only at p6
      rw [p6] at hK ⊢
      clear p6
      unfold RunsOp
      go_simp
      exact hK.out _ _ ⟨_, rfl, Only.refl _ _, rfl⟩
    · intro vals wr hR hp K hK
      dsimp only at hK ⊢
      obtain ⟨p7, -⟩ := hp
      replace p7 := p7 rfl
      dsimp only at p7
      rw [p7] at hK ⊢
      clear p7
      unfold RunsOp
      go_simp
      exact hK.out _ _ ⟨_, rfl, Only.refl _ _, rfl⟩
    · intro vals wr hR hp K hK
      dsimp only at hK ⊢
      obtain ⟨p7, -⟩ := hp
      replace p7 := p7 rfl
      dsimp only at p7
      rw [p7] at hK ⊢
      clear p7
      unfold RunsOp
      go_simp
      exact hK.out _ _ ⟨_, rfl, Only.refl _ _, rfl⟩
    · intro vals wr hR hp K hK
      dsimp only at hK ⊢
      obtain ⟨p8, p9, p7, -⟩ := hp
      replace p8 := p8 rfl
      replace p9 := p9 rfl
      replace p7 := p7 rfl
      dsimp only at p8 p9 p7
      rw [p8, p9, p7] at hK ⊢
      clear p8 p9 p7
      unfold RunsOp
      go_simp
      exact hK.out _ _ ⟨_, rfl, Only.refl _ _, rfl⟩
    · intro vals wr hR hp K hK
      dsimp only at hK ⊢
      obtain ⟨p7, p10, -⟩ := hp
      replace p7 := p7 rfl
      replace p10 := p10 rfl
      dsimp only at p7 p10
      rw [p7, p10] at hK ⊢
      clear p7 p10
      unfold RunsOp
      go_simp
      exact hK.out _ _ ⟨_, rfl, Only.refl _ _, rfl⟩
    · intro vals wr hR hp K hK
      dsimp only at hK ⊢
      obtain ⟨p11, -, -⟩ := hp
      replace p11 := p11 rfl
      dsimp only at p11
      rw [p11] at hK ⊢
      clear p11
      unfold RunsOp
      go_simp
      exact hK.out _ _ ⟨_, rfl, Only.refl _ _, rfl⟩
    · intro vals wr hR hp K hK
      dsimp only at hK ⊢
      obtain ⟨p12, -⟩ := hp
      replace p12 := p12 rfl
      dsimp only at p12
      rw [p12] at hK ⊢
      clear p12
      unfold RunsOp
      have tb4 := hR.blk (by first | exact B4.out | exact Blk.drew B4.out) (by simp)
      obtain ⟨c40, c41, c42, cl4⟩ := tb4.facts3
      clear tb4
      go_simp
      exact hK.out _ _ ⟨_, rfl, Only.refl _ _, rfl⟩
    · intro vals wr hR hp K hK
      dsimp only at hK ⊢
      obtain ⟨p13, p12, -, -⟩ := hp
      replace p13 := p13 rfl
      replace p12 := p12 rfl
      dsimp only at p13 p12
      rw [p13, p12] at hK ⊢
      clear p13 p12
      unfold RunsOp
      go_simp
      refine (plain_any q _).mono ?_
      rintro e w2 ⟨rfl, o2⟩
      exact hK.out _ _ ⟨_, rfl, o2, rfl⟩
    · intro vals wr hR hp K hK
      dsimp only at hK ⊢
      obtain ⟨p12, -⟩ := hp
      replace p12 := p12 rfl
      dsimp only at p12
      rw [p12] at hK ⊢
      clear p12
      unfold RunsOp
      have tb5 := hR.blk (by first | exact B5.out | exact Blk.drew B5.out) (by simp)
      obtain ⟨c50, c51, c52, cl5⟩ := tb5.facts3
      clear tb5
      go_simp
      exact hK.out _ _ ⟨_, rfl, Only.refl _ _, rfl⟩
    · intro vals wr hR hp K hK
      dsimp only at hK ⊢
      obtain ⟨p14, p15, p12, -⟩ := hp
      replace p14 := p14 rfl
      replace p15 := p15 rfl
      replace p12 := p12 rfl
      dsimp only at p14 p15 p12
      obtain p14 := p14
      rw [p14, p15, p12] at hK ⊢
      clear p14 p15 p12
      unfold RunsOp
      go_simp
      exact hK.out _ _ ⟨_, rfl, Only.refl _ _, rfl⟩
    · intro vals wr hR hp K hK
      dsimp only at hK ⊢
      obtain ⟨p12, p16, -⟩ := hp
      replace p12 := p12 rfl
      replace p16 := p16 rfl
      dsimp only at p12 p16
      rw [p12, p16] at hK ⊢
      clear p12 p16
      unfold RunsOp
      go_simp
      exact hK.out _ _ ⟨_, rfl, Only.refl _ _, rfl⟩
    · intro vals wr hR hp K hK
      dsimp only at hK ⊢
      obtain ⟨p17, -, -⟩ := hp
      replace p17 := p17 rfl
      dsimp only at p17
      rw [p17] at hK ⊢
      clear p17
      unfold RunsOp
      go_simp
      exact hK.out _ _ ⟨_, rfl, Only.refl _ _, rfl⟩
    · intro vals wr hR hp K hK
      dsimp only at hK ⊢
      obtain ⟨p18, -⟩ := hp
      replace p18 := p18 rfl
      dsimp only at p18
      rw [p18] at hK ⊢
      clear p18
      unfold RunsOp
      go_simp
      exact hK.out _ _ ⟨_, rfl, Only.refl _ _, rfl⟩
    · intro vals wr hR hp K hK
      dsimp only at hK ⊢
      obtain ⟨p18, -⟩ := hp
      replace p18 := p18 rfl
      dsimp only at p18
      rw [p18] at hK ⊢
      clear p18
      unfold RunsOp
      go_simp
      exact hK.out _ _ ⟨_, rfl, Only.refl _ _, rfl⟩
    · intro vals wr hR hp K hK
      dsimp only at hK ⊢
      obtain ⟨p19, p20, p18, -⟩ := hp
      replace p19 := p19 rfl
      replace p20 := p20 rfl
      replace p18 := p18 rfl
      dsimp only at p19 p20 p18
      rw [p19, p20, p18] at hK ⊢
      clear p19 p20 p18
      unfold RunsOp
      go_simp
      exact hK.out _ _ ⟨_, rfl, Only.refl _ _, rfl⟩
    · intro vals wr hR hp K hK
      dsimp only at hK ⊢
      obtain ⟨p18, p21, -⟩ := hp
      replace p18 := p18 rfl
      replace p21 := p21 rfl
      dsimp only at p18 p21
      rw [p18, p21] at hK ⊢
      clear p18 p21
      unfold RunsOp
      go_simp
      exact hK.out _ _ ⟨_, rfl, Only.refl _ _, rfl⟩
  intro vals w9 hR hF
  have f22 : vals 22 = .bool true := hF 22 (by decide)
  rw [f22]
  clear hF f22
  have B0x := hR.blk (t := 25) (cs := #[.int .i64 a.1.1, .int .i64 a.1.2, .int .i64 a.2]) (g := w.heap.size) (by first | exact B0.out | exact Blk.drewN B0.out _ | exact Blk.drew B0.out) (by simp)
  have B1x := hR.blk (t := 23) (cs := #[.int .i64 t.1, .int .i64 t.2]) (g := w.heap.size + 1) (by first | exact B1.out | exact Blk.drewN B1.out _ | exact Blk.drew B1.out) (by simp)
  have B2x := hR.blk (t := 27) (cs := #[.int .i64 u.1.1, .int .i64 u.1.2, .int .i64 u.2]) (g := g) (by first | exact B2.out | exact Blk.drewN B2.out _ | exact Blk.drew B2.out) (by simp)
  have B3x := hR.blk (t := 25) (cs := #[.int .i64 u.1.1, .int .i64 u.1.2, .int .i64 u.2]) (g := w4.heap.size) (by first | exact B3.out | exact Blk.drewN B3.out _ | exact Blk.drew B3.out) (by simp)
  have B4x := hR.blk (t := 27) (cs := #[.int .i64 q.1.1, .int .i64 q.1.2, .int .i64 q.2]) (g := w6.heap.size) (by first | exact B4.out | exact Blk.drewN B4.out _ | exact Blk.drew B4.out) (by simp)
  have B5x := hR.blk (t := 25) (cs := #[.int .i64 q.1.1, .int .i64 q.1.2, .int .i64 q.2]) (g := w7.heap.size) (by first | exact B5.out | exact Blk.drewN B5.out _ | exact Blk.drew B5.out) (by simp)
  have O9x : Only [] w w9 := (by first | exact Only.trans O8.out hR (by simp) | exact Only.trans (Only.drewN O8.out _) hR (by simp) | exact Only.trans (Only.drew O8.out) hR (by simp))
  obtain ⟨B0c0, B0c1, B0c2, B0l⟩ := B0x.facts3
  obtain ⟨B1c0, B1c1, B1l⟩ := B1x.facts2
  obtain ⟨B2c0, B2c1, B2c2, B2l⟩ := B2x.facts3
  obtain ⟨B3c0, B3c1, B3c2, B3l⟩ := B3x.facts3
  obtain ⟨B4c0, B4c1, B4c2, B4l⟩ := B4x.facts3
  obtain ⟨B5c0, B5c1, B5c2, B5l⟩ := B5x.facts3
  clear B0 B1 B2 B3 B4 B5 O8 hR
  have B0 := Lib.hid B0x; have B1 := Lib.hid B1x; have B2 := Lib.hid B2x; have B3 := Lib.hid B3x; have B4 := Lib.hid B4x; have B5 := Lib.hid B5x; have O9 := Lib.hid O9x
  clear B0x B1x B2x B3x B4x B5x O9x
  go_wp2_with (fail)
  go_ret
  exact ⟨by first | rfl | simp, by first | exact O9.out | exact Only.drewN O9.out _⟩

theorem stafter_any (a : St) (t : Tm) (ha : a.ok) (to : t.ok) {w : World} (hw : Tab10 w) :
    Calls Tryd.prog 5 #[.agg #[.int .i64 a.1.1, .int .i64 a.1.2, .int .i64 a.2], .agg #[.int .i64 t.1, .int .i64 t.2]] w fun e w' => e = .returned (.bool true) ∧ Only [] w w' := stafter_all a t ha to rfl rfl hw
end Go.Proofs.YtoefekgfklillaaDoor
