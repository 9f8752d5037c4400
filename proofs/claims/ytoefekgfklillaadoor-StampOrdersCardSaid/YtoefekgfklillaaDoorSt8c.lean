/- StampOrders: the law's own walk. -/
import Derived.Test.YtoefekgfklillaaDoorSt5
import Derived.Test.YtoefekgfklillaaDoorOrdLaw
namespace Go.Proofs.YtoefekgfklillaaDoor
open Go.RowKit Go.Kx
set_option maxRecDepth 20000


set_option maxHeartbeats 4000000 in
theorem storders_110 (a b c : St) (t : Tm)  (ha : a.ok) (hb : b.ok) (hc : c.ok) (to : t.ok) {x y : Int} {z : Bool} (h1 : stC a b = x) (h2 : stC b a = y) (hx : y = -x) (hr : x = -1 ∨ x = 0 ∨ x = 1) (z1 : decide (x = -1) = z) (z2 : decide (x < 0) = z) (ra : stR a = true) (rb : stR b = true) (rc : stR c = true) {p : Bool} (p1 : decide (x = 0) = p) (p2 : decide (a = b) = p) (q1 : decide (x ≤ 0) = true) {s : Int} (h3 : stC b c = s) (r1 : decide (s ≤ 0) = true) {k : Int} (h4 : stC a c = k) (k3 : decide (0 < k) = false) {u : St} (h5 : afterT a t = (u, 0)) (hu : u.ok) (ru : stR u = true) (lu : stC a u = -1)  {w : World} (hw : Tab10 w) :
    Calls Tryd.prog 3 #[.agg #[.int .i64 a.1.1, .int .i64 a.1.2, .int .i64 a.2], .agg #[.int .i64 b.1.1, .int .i64 b.1.2, .int .i64 b.2], .agg #[.int .i64 c.1.1, .int .i64 c.1.2, .int .i64 c.2], .agg #[.int .i64 t.1, .int .i64 t.2]] w fun e w' => e = .returned (.bool true) ∧ Only [] w w' := by
  have H1 := Lib.hid h1
  have H2 := Lib.hid h2
  subst hx
  have k1 : -(-x) = x := by omega
  have k2 : IntKind.i64.wrap x = x := by rcases hr with rfl | rfl | rfl <;> rfl
  clear h1 h2
  have Ra := Lib.hid ra
  have Rb := Lib.hid rb
  have Rc := Lib.hid rc
  have p3 : (x == 0) = p := by rw [← p1]; rfl
  have p4 := eq_st25 a b p2
  clear ra rb rc p2
  have H3 := Lib.hid h3
  clear h3
  have H4 := Lib.hid h4
  clear h4
  have H5 := Lib.hid h5
  have RU := Lib.hid ru
  have LU := Lib.hid lu
  clear h5 ru lu
  have HW := Lib.hid hw
  clear hw
  have O0 := Lib.hid (Only.refl [] w)
  go_enter Tryd.func3, Tryd.ntmps3
  have B0 := Lib.hid ((Blk.alloc (Blk.alloc (Blk.alloc (by have h := Blk.new w 25 #[.int .i64 a.1.1, .int .i64 a.1.2, .int .i64 a.2]; simpa using h : Blk (w.alloc (.cells #[.int .i64 a.1.1, .int .i64 a.1.2, .int .i64 a.2] 25)) (w.heap.size) 25 #[.int .i64 a.1.1, .int .i64 a.1.2, .int .i64 a.2]) _) _) _) : Blk ((((w.alloc (.cells #[.int .i64 a.1.1, .int .i64 a.1.2, .int .i64 a.2] 25)).alloc (.cells #[.int .i64 b.1.1, .int .i64 b.1.2, .int .i64 b.2] 25)).alloc (.cells #[.int .i64 c.1.1, .int .i64 c.1.2, .int .i64 c.2] 25)).alloc (.cells #[.int .i64 t.1, .int .i64 t.2] 23)) (w.heap.size) 25 #[.int .i64 a.1.1, .int .i64 a.1.2, .int .i64 a.2])
  have B1 := Lib.hid ((Blk.alloc (Blk.alloc (by have h := Blk.new (w.alloc (.cells #[.int .i64 a.1.1, .int .i64 a.1.2, .int .i64 a.2] 25)) 25 #[.int .i64 b.1.1, .int .i64 b.1.2, .int .i64 b.2]; simpa using h : Blk ((w.alloc (.cells #[.int .i64 a.1.1, .int .i64 a.1.2, .int .i64 a.2] 25)).alloc (.cells #[.int .i64 b.1.1, .int .i64 b.1.2, .int .i64 b.2] 25)) (w.heap.size + 1) 25 #[.int .i64 b.1.1, .int .i64 b.1.2, .int .i64 b.2]) _) _) : Blk ((((w.alloc (.cells #[.int .i64 a.1.1, .int .i64 a.1.2, .int .i64 a.2] 25)).alloc (.cells #[.int .i64 b.1.1, .int .i64 b.1.2, .int .i64 b.2] 25)).alloc (.cells #[.int .i64 c.1.1, .int .i64 c.1.2, .int .i64 c.2] 25)).alloc (.cells #[.int .i64 t.1, .int .i64 t.2] 23)) (w.heap.size + 1) 25 #[.int .i64 b.1.1, .int .i64 b.1.2, .int .i64 b.2])
  have B2 := Lib.hid ((Blk.alloc (by have h := Blk.new ((w.alloc (.cells #[.int .i64 a.1.1, .int .i64 a.1.2, .int .i64 a.2] 25)).alloc (.cells #[.int .i64 b.1.1, .int .i64 b.1.2, .int .i64 b.2] 25)) 25 #[.int .i64 c.1.1, .int .i64 c.1.2, .int .i64 c.2]; simpa using h : Blk (((w.alloc (.cells #[.int .i64 a.1.1, .int .i64 a.1.2, .int .i64 a.2] 25)).alloc (.cells #[.int .i64 b.1.1, .int .i64 b.1.2, .int .i64 b.2] 25)).alloc (.cells #[.int .i64 c.1.1, .int .i64 c.1.2, .int .i64 c.2] 25)) (w.heap.size + 2) 25 #[.int .i64 c.1.1, .int .i64 c.1.2, .int .i64 c.2]) _) : Blk ((((w.alloc (.cells #[.int .i64 a.1.1, .int .i64 a.1.2, .int .i64 a.2] 25)).alloc (.cells #[.int .i64 b.1.1, .int .i64 b.1.2, .int .i64 b.2] 25)).alloc (.cells #[.int .i64 c.1.1, .int .i64 c.1.2, .int .i64 c.2] 25)).alloc (.cells #[.int .i64 t.1, .int .i64 t.2] 23)) (w.heap.size + 2) 25 #[.int .i64 c.1.1, .int .i64 c.1.2, .int .i64 c.2])
  have B3 := Lib.hid ((by have h := Blk.new (((w.alloc (.cells #[.int .i64 a.1.1, .int .i64 a.1.2, .int .i64 a.2] 25)).alloc (.cells #[.int .i64 b.1.1, .int .i64 b.1.2, .int .i64 b.2] 25)).alloc (.cells #[.int .i64 c.1.1, .int .i64 c.1.2, .int .i64 c.2] 25)) 23 #[.int .i64 t.1, .int .i64 t.2]; simpa using h : Blk ((((w.alloc (.cells #[.int .i64 a.1.1, .int .i64 a.1.2, .int .i64 a.2] 25)).alloc (.cells #[.int .i64 b.1.1, .int .i64 b.1.2, .int .i64 b.2] 25)).alloc (.cells #[.int .i64 c.1.1, .int .i64 c.1.2, .int .i64 c.2] 25)).alloc (.cells #[.int .i64 t.1, .int .i64 t.2] 23)) (w.heap.size + 3) 23 #[.int .i64 t.1, .int .i64 t.2]) : Blk ((((w.alloc (.cells #[.int .i64 a.1.1, .int .i64 a.1.2, .int .i64 a.2] 25)).alloc (.cells #[.int .i64 b.1.1, .int .i64 b.1.2, .int .i64 b.2] 25)).alloc (.cells #[.int .i64 c.1.1, .int .i64 c.1.2, .int .i64 c.2] 25)).alloc (.cells #[.int .i64 t.1, .int .i64 t.2] 23)) (w.heap.size + 3) 23 #[.int .i64 t.1, .int .i64 t.2])
  have O1 := Lib.hid (((((O0.out.alloc _).alloc _).alloc _).alloc _) : Only [] w ((((w.alloc (.cells #[.int .i64 a.1.1, .int .i64 a.1.2, .int .i64 a.2] 25)).alloc (.cells #[.int .i64 b.1.1, .int .i64 b.1.2, .int .i64 b.2] 25)).alloc (.cells #[.int .i64 c.1.1, .int .i64 c.1.2, .int .i64 c.2] 25)).alloc (.cells #[.int .i64 t.1, .int .i64 t.2] 23)))
  clear O0
  go_wp2_with (fail)
  refine wp_region_facts 6 [] (fr := ?fr) (tl := ?tl) (fun i v wv => match i with
    | 0 => v = .agg #[.int .i64 a.1.1, .int .i64 a.1.2, .int .i64 a.2]
    | 1 => v = .agg #[.int .i64 a.1.1, .int .i64 a.1.2, .int .i64 a.2]
    | 2 => v = .agg #[.int .i64 b.1.1, .int .i64 b.1.2, .int .i64 b.2]
    | 3 => v = .agg #[.int .i64 b.1.1, .int .i64 b.1.2, .int .i64 b.2]
    | 4 => v = .int .i64 x
    | 5 => v = .int .i64 x
    | _ => True) (by kernel_rfl) (by kernel_rfl) (by kernel_rfl) (by kernel_rfl) (by decide) ?htl ?hfr ?stab ?steps ?done
  case htl => simp only [List.drop_succ_cons, List.drop_zero]; rfl
  case hfr => intro vals; simp only [putAll, dstAt, Act.put, List.getElem?_toArray, List.getElem?_cons_zero, List.getElem?_cons_succ, Option.bind_some, List.setIfInBounds_toArray, List.set_cons_zero, List.set_cons_succ]; rfl
  case stab =>
    intro i v wa wb h
    try dsimp only
    split <;> first | exact id | fail
  case steps =>
    refine ⟨?_, ?_, ?_, ?_, ?_, ?_, trivial⟩
    · intro vals wr hR hp K hK
      dsimp only at hK ⊢
      clear hp
      unfold RunsOp
      have tb0 := hR.blk (by first | exact B0.out | exact Blk.drew B0.out) (by simp)
      obtain ⟨c00, c01, c02, cl0⟩ := tb0.facts3
      clear tb0
      go_simp
      exact hK.out _ _ ⟨_, rfl, Only.refl _ _, rfl⟩
    · intro vals wr hR hp K hK
      dsimp only at hK ⊢
      obtain ⟨p0, -⟩ := hp
      replace p0 := p0 rfl
      dsimp only at p0
      rw [p0] at hK ⊢
      clear p0
      unfold RunsOp
      go_simp
      refine (of_any a _).mono ?_
      rintro e w2 ⟨rfl, o2⟩
      exact hK.out _ _ ⟨_, rfl, o2, rfl⟩
    · intro vals wr hR hp K hK
      dsimp only at hK ⊢
      clear hp
      unfold RunsOp
      have tb1 := hR.blk (by first | exact B1.out | exact Blk.drew B1.out) (by simp)
      obtain ⟨c10, c11, c12, cl1⟩ := tb1.facts3
      clear tb1
      go_simp
      exact hK.out _ _ ⟨_, rfl, Only.refl _ _, rfl⟩
    · intro vals wr hR hp K hK
      dsimp only at hK ⊢
      obtain ⟨p2, -, -⟩ := hp
      replace p2 := p2 rfl
      dsimp only at p2
      rw [p2] at hK ⊢
      clear p2
      unfold RunsOp
      go_simp
      refine (of_any b _).mono ?_
      rintro e w2 ⟨rfl, o2⟩
      exact hK.out _ _ ⟨_, rfl, o2, rfl⟩
    · intro vals wr hR hp K hK
      dsimp only at hK ⊢
      obtain ⟨p1, p3, -, -⟩ := hp
      replace p1 := p1 rfl
      replace p3 := p3 rfl
      dsimp only at p1 p3
      obtain p1 := p1
      obtain p3 := p3
      rw [p1, p3] at hK ⊢
      clear p1 p3
      unfold RunsOp
      go_simp
      refine (stcmpr a b ha hb H1.out _).mono ?_
      rintro e w2 ⟨rfl, o2⟩
      exact hK.out _ _ ⟨_, rfl, o2, rfl⟩
    · intro vals wr hR hp K hK
      dsimp only at hK ⊢
      obtain ⟨p4, -, -, -, -, -, -, -⟩ := hp
      replace p4 := p4 rfl
      dsimp only at p4
      obtain p4 := p4
      rw [p4] at hK ⊢
      clear p4
      unfold RunsOp
      go_simp
      exact hK.out _ _ ⟨_, rfl, Only.refl _ _, rfl⟩
  intro vals w2 hR hF
  have f5 : vals 5 = .int .i64 x := hF 5 (by decide)
  rw [f5]
  clear hF f5
  refine wpList_nil ?_
  have B0x := hR.blk (t := 25) (cs := #[.int .i64 a.1.1, .int .i64 a.1.2, .int .i64 a.2]) (g := w.heap.size) (by first | exact B0.out | exact Blk.drewN B0.out _ | exact Blk.drew B0.out) (by simp)
  have B1x := hR.blk (t := 25) (cs := #[.int .i64 b.1.1, .int .i64 b.1.2, .int .i64 b.2]) (g := w.heap.size + 1) (by first | exact B1.out | exact Blk.drewN B1.out _ | exact Blk.drew B1.out) (by simp)
  have B2x := hR.blk (t := 25) (cs := #[.int .i64 c.1.1, .int .i64 c.1.2, .int .i64 c.2]) (g := w.heap.size + 2) (by first | exact B2.out | exact Blk.drewN B2.out _ | exact Blk.drew B2.out) (by simp)
  have B3x := hR.blk (t := 23) (cs := #[.int .i64 t.1, .int .i64 t.2]) (g := w.heap.size + 3) (by first | exact B3.out | exact Blk.drewN B3.out _ | exact Blk.drew B3.out) (by simp)
  have O2x : Only [] w w2 := (by first | exact Only.trans O1.out hR (by simp) | exact Only.trans (Only.drewN O1.out _) hR (by simp) | exact Only.trans (Only.drew O1.out) hR (by simp))
  obtain ⟨B0c0, B0c1, B0c2, B0l⟩ := B0x.facts3
  obtain ⟨B1c0, B1c1, B1c2, B1l⟩ := B1x.facts3
  obtain ⟨B2c0, B2c1, B2c2, B2l⟩ := B2x.facts3
  obtain ⟨B3c0, B3c1, B3l⟩ := B3x.facts2
  clear B0 B1 B2 B3 O1 hR
  have B0 := Lib.hid B0x; have B1 := Lib.hid B1x; have B2 := Lib.hid B2x; have B3 := Lib.hid B3x; have O2 := Lib.hid O2x
  clear B0x B1x B2x B3x O2x
  go_wp2_with (fail)
  refine wp_region_facts 22 [] (fr := ?frb) (tl := ?tlb) (fun i v wv => match i with
    | 0 => v = .bool true
    | 1 => v = .bool false
    | 2 => v = .bool false
    | 3 => v = .int .i64 x
    | 4 => v = .agg #[.int .i64 b.1.1, .int .i64 b.1.2, .int .i64 b.2]
    | 5 => v = .agg #[.int .i64 b.1.1, .int .i64 b.1.2, .int .i64 b.2]
    | 6 => v = .agg #[.int .i64 a.1.1, .int .i64 a.1.2, .int .i64 a.2]
    | 7 => v = .agg #[.int .i64 a.1.1, .int .i64 a.1.2, .int .i64 a.2]
    | 8 => v = .int .i64 (-x)
    | 9 => v = .int .i64 x
    | 10 => v = .bool false
    | 11 => v = .bool false
    | 12 => v = .bool false
    | 13 => v = .agg #[.int .i64 a.1.1, .int .i64 a.1.2, .int .i64 a.2]
    | 14 => v = .agg #[.int .i64 a.1.1, .int .i64 a.1.2, .int .i64 a.2]
    | 15 => v = .agg #[.int .i64 b.1.1, .int .i64 b.1.2, .int .i64 b.2]
    | 16 => v = .agg #[.int .i64 b.1.1, .int .i64 b.1.2, .int .i64 b.2]
    | 17 => v = .bool z
    | 18 => v = .int .i64 x
    | 19 => v = .bool z
    | 20 => v = .bool false
    | 21 => v = .bool false
    | _ => True) (by kernel_rfl) (by kernel_rfl) (by kernel_rfl) (by kernel_rfl) (by decide) ?htlb ?hfrb ?stabb ?stepsb ?doneb
  case htlb => simp only [List.drop_succ_cons, List.drop_zero]; rfl
  case hfrb => intro vals; simp only [putAll, dstAt, Act.put, List.getElem?_toArray, List.getElem?_cons_zero, List.getElem?_cons_succ, Option.bind_some, List.setIfInBounds_toArray, List.set_cons_zero, List.set_cons_succ]; rfl
  case stabb =>
    intro i v wa wb h
    try dsimp only
    split <;> first | exact id | fail
  case stepsb =>
    refine ⟨?_, ?_, ?_, ?_, ?_, ?_, ?_, ?_, ?_, ?_, ?_, ?_, ?_, ?_, ?_, ?_, ?_, ?_, ?_, ?_, ?_, ?_, trivial⟩
    · intro vals wr hR hp K hK
      dsimp only at hK ⊢
      clear hp
      unfold RunsOp
      have tt := HW.out.only (Only.trans (by first | exact O2.out.drew | exact (O2.out.drewN _).drew) hR (by simp))
      go_simp
      refine (awake_any tt).mono ?_
      rintro e w2 ⟨rfl, o2⟩
      exact hK.out _ _ ⟨_, rfl, o2, rfl⟩
    · intro vals wr hR hp K hK
      dsimp only at hK ⊢
      obtain ⟨p0, -⟩ := hp
      replace p0 := p0 rfl
      dsimp only at p0
      obtain p0 := p0
      rw [p0] at hK ⊢
      clear p0
      unfold RunsOp
      go_simp
      exact hK.out _ _ ⟨_, rfl, Only.refl _ _, rfl⟩
    · intro vals wr hR hp K hK
      dsimp only at hK ⊢
      obtain ⟨p1, -, -⟩ := hp
      replace p1 := p1 rfl
      dsimp only at p1
      rw [p1] at hK ⊢
      clear p1
      unfold RunsOp
      go_simp
      exact hK.out _ _ ⟨_, rfl, Only.refl _ _, rfl⟩
    · intro vals wr hR hp K hK
      dsimp only at hK ⊢
      obtain ⟨p2, -⟩ := hp
      replace p2 := p2 rfl
      dsimp only at p2
      rw [p2] at hK ⊢
      clear p2
      unfold RunsOp
      go_simp
      exact hK.out _ _ ⟨_, rfl, Only.refl _ _, rfl⟩
    · intro vals wr hR hp K hK
      dsimp only at hK ⊢
      obtain ⟨p2, -⟩ := hp
      replace p2 := p2 rfl
      dsimp only at p2
      rw [p2] at hK ⊢
      clear p2
      unfold RunsOp
      have tb1 := hR.blk (by first | exact B1.out | exact Blk.drew B1.out) (by simp)
      obtain ⟨c10, c11, c12, cl1⟩ := tb1.facts3
      clear tb1
      go_simp
      exact hK.out _ _ ⟨_, rfl, Only.refl _ _, rfl⟩
    · intro vals wr hR hp K hK
      dsimp only at hK ⊢
      obtain ⟨p4, p2, -, -⟩ := hp
      replace p4 := p4 rfl
      replace p2 := p2 rfl
      dsimp only at p4 p2
      rw [p4, p2] at hK ⊢
      clear p4 p2
      unfold RunsOp
      go_simp
      refine (of_any b _).mono ?_
      rintro e w2 ⟨rfl, o2⟩
      exact hK.out _ _ ⟨_, rfl, o2, rfl⟩
    · intro vals wr hR hp K hK
      dsimp only at hK ⊢
      obtain ⟨p2, -⟩ := hp
      replace p2 := p2 rfl
      dsimp only at p2
      rw [p2] at hK ⊢
      clear p2
      unfold RunsOp
      have tb0 := hR.blk (by first | exact B0.out | exact Blk.drew B0.out) (by simp)
      obtain ⟨c00, c01, c02, cl0⟩ := tb0.facts3
      clear tb0
      go_simp
      exact hK.out _ _ ⟨_, rfl, Only.refl _ _, rfl⟩
    · intro vals wr hR hp K hK
      dsimp only at hK ⊢
      obtain ⟨p6, -, p2, -⟩ := hp
      replace p6 := p6 rfl
      replace p2 := p2 rfl
      dsimp only at p6 p2
      rw [p6, p2] at hK ⊢
      clear p6 p2
      unfold RunsOp
      go_simp
      refine (of_any a _).mono ?_
      rintro e w2 ⟨rfl, o2⟩
      exact hK.out _ _ ⟨_, rfl, o2, rfl⟩
    · intro vals wr hR hp K hK
      dsimp only at hK ⊢
      obtain ⟨p5, p7, -, p2, -⟩ := hp
      replace p5 := p5 rfl
      replace p7 := p7 rfl
      replace p2 := p2 rfl
      dsimp only at p5 p7 p2
      obtain p5 := p5
      obtain p7 := p7
      rw [p5, p7, p2] at hK ⊢
      clear p5 p7 p2
      unfold RunsOp
      go_simp
      refine (stcmpr b a hb ha H2.out _).mono ?_
      rintro e w2 ⟨rfl, o2⟩
      exact hK.out _ _ ⟨_, rfl, o2, rfl⟩
    · intro vals wr hR hp K hK
      dsimp only at hK ⊢
      obtain ⟨p8, p2, -⟩ := hp
      replace p8 := p8 rfl
      replace p2 := p2 rfl
      dsimp only at p8 p2
      obtain p8 := p8
      rw [p8, p2] at hK ⊢
      clear p8 p2
      unfold RunsOp
      go_simp
      exact hK.out _ _ ⟨_, rfl, Only.refl _ _, rfl⟩
    · intro vals wr hR hp K hK
      dsimp only at hK ⊢
      obtain ⟨p3, p9, p2, -⟩ := hp
      replace p3 := p3 rfl
      replace p9 := p9 rfl
      replace p2 := p2 rfl
      dsimp only at p3 p9 p2
      rw [p3, p9, p2] at hK ⊢
      clear p3 p9 p2
      unfold RunsOp
      go_simp
      exact hK.out _ _ ⟨_, rfl, Only.refl _ _, rfl⟩
    · intro vals wr hR hp K hK
      dsimp only at hK ⊢
      obtain ⟨p2, p10, -⟩ := hp
      replace p2 := p2 rfl
      replace p10 := p10 rfl
      dsimp only at p2 p10
      rw [p2, p10] at hK ⊢
      clear p2 p10
      unfold RunsOp
      go_simp
      exact hK.out _ _ ⟨_, rfl, Only.refl _ _, rfl⟩
    · intro vals wr hR hp K hK
      dsimp only at hK ⊢
      obtain ⟨p11, -, -⟩ := hp
      replace p11 := p11 rfl
      dsimp only at p11
      rw [p11] at hK ⊢
      clear p11
      unfold RunsOp
      go_simp
      exact hK.out _ _ ⟨_, rfl, Only.refl _ _, rfl⟩
    · intro vals wr hR hp K hK
      dsimp only at hK ⊢
      obtain ⟨p12, -⟩ := hp
      replace p12 := p12 rfl
      dsimp only at p12
      rw [p12] at hK ⊢
      clear p12
      unfold RunsOp
      have tb0 := hR.blk (by first | exact B0.out | exact Blk.drew B0.out) (by simp)
      obtain ⟨c00, c01, c02, cl0⟩ := tb0.facts3
      clear tb0
      go_simp
      exact hK.out _ _ ⟨_, rfl, Only.refl _ _, rfl⟩
    · intro vals wr hR hp K hK
      dsimp only at hK ⊢
      obtain ⟨p13, p12, -, -⟩ := hp
      replace p13 := p13 rfl
      replace p12 := p12 rfl
      dsimp only at p13 p12
      rw [p13, p12] at hK ⊢
      clear p13 p12
      unfold RunsOp
      go_simp
      refine (of_any a _).mono ?_
      rintro e w2 ⟨rfl, o2⟩
      exact hK.out _ _ ⟨_, rfl, o2, rfl⟩
    · intro vals wr hR hp K hK
      dsimp only at hK ⊢
      obtain ⟨p12, -⟩ := hp
      replace p12 := p12 rfl
      dsimp only at p12
      rw [p12] at hK ⊢
      clear p12
      unfold RunsOp
      have tb1 := hR.blk (by first | exact B1.out | exact Blk.drew B1.out) (by simp)
      obtain ⟨c10, c11, c12, cl1⟩ := tb1.facts3
      clear tb1
      go_simp
      exact hK.out _ _ ⟨_, rfl, Only.refl _ _, rfl⟩
    · intro vals wr hR hp K hK
      dsimp only at hK ⊢
      obtain ⟨p15, -, p12, -⟩ := hp
      replace p15 := p15 rfl
      replace p12 := p12 rfl
      dsimp only at p15 p12
      rw [p15, p12] at hK ⊢
      clear p15 p12
      unfold RunsOp
      go_simp
      refine (of_any b _).mono ?_
      rintro e w2 ⟨rfl, o2⟩
      exact hK.out _ _ ⟨_, rfl, o2, rfl⟩
    · intro vals wr hR hp K hK
      dsimp only at hK ⊢
      obtain ⟨p14, p16, -, p12, -⟩ := hp
      replace p14 := p14 rfl
      replace p16 := p16 rfl
      replace p12 := p12 rfl
      dsimp only at p14 p16 p12
      obtain p14 := p14
      obtain p16 := p16
      rw [p14, p16, p12] at hK ⊢
      clear p14 p16 p12
      unfold RunsOp
      go_simp
      refine (lessr a b ha hb H1.out z1 _).mono ?_
      rintro e w2 ⟨rfl, o2⟩
      exact hK.out _ _ ⟨_, rfl, o2, rfl⟩
    · intro vals wr hR hp K hK
      dsimp only at hK ⊢
      obtain ⟨p12, -⟩ := hp
      replace p12 := p12 rfl
      dsimp only at p12
      rw [p12] at hK ⊢
      clear p12
      unfold RunsOp
      go_simp
      exact hK.out _ _ ⟨_, rfl, Only.refl _ _, rfl⟩
    · intro vals wr hR hp K hK
      dsimp only at hK ⊢
      obtain ⟨p18, p12, -⟩ := hp
      replace p18 := p18 rfl
      replace p12 := p12 rfl
      dsimp only at p18 p12
      rw [p18, p12] at hK ⊢
      clear p18 p12
      unfold RunsOp
      go_simp
      exact hK.out _ _ ⟨_, rfl, Only.refl _ _, rfl⟩
    · intro vals wr hR hp K hK
      dsimp only at hK ⊢
      obtain ⟨p17, p19, p12, -⟩ := hp
      replace p17 := p17 rfl
      replace p19 := p19 rfl
      replace p12 := p12 rfl
      dsimp only at p17 p19 p12
      obtain p17 := p17
      rw [p17, p19, p12] at hK ⊢
      clear p17 p19 p12
      unfold RunsOp
      go_simp
      exact hK.out _ _ ⟨_, rfl, Only.refl _ _, rfl⟩
    · intro vals wr hR hp K hK
      dsimp only at hK ⊢
      obtain ⟨p12, p20, -⟩ := hp
      replace p12 := p12 rfl
      replace p20 := p20 rfl
      dsimp only at p12 p20
      rw [p12, p20] at hK ⊢
      clear p12 p20
      unfold RunsOp
      go_simp
      exact hK.out _ _ ⟨_, rfl, Only.refl _ _, rfl⟩
  intro vals w3 hR hF
  have f21 : vals 21 = .bool false := hF 21 (by decide)
  rw [f21]
  clear hF f21
  refine wpList_nil ?_
  have B0x := hR.blk (t := 25) (cs := #[.int .i64 a.1.1, .int .i64 a.1.2, .int .i64 a.2]) (g := w.heap.size) (by first | exact B0.out | exact Blk.drewN B0.out _ | exact Blk.drew B0.out) (by simp)
  have B1x := hR.blk (t := 25) (cs := #[.int .i64 b.1.1, .int .i64 b.1.2, .int .i64 b.2]) (g := w.heap.size + 1) (by first | exact B1.out | exact Blk.drewN B1.out _ | exact Blk.drew B1.out) (by simp)
  have B2x := hR.blk (t := 25) (cs := #[.int .i64 c.1.1, .int .i64 c.1.2, .int .i64 c.2]) (g := w.heap.size + 2) (by first | exact B2.out | exact Blk.drewN B2.out _ | exact Blk.drew B2.out) (by simp)
  have B3x := hR.blk (t := 23) (cs := #[.int .i64 t.1, .int .i64 t.2]) (g := w.heap.size + 3) (by first | exact B3.out | exact Blk.drewN B3.out _ | exact Blk.drew B3.out) (by simp)
  have O3x : Only [] w w3 := (by first | exact Only.trans O2.out hR (by simp) | exact Only.trans (Only.drewN O2.out _) hR (by simp) | exact Only.trans (Only.drew O2.out) hR (by simp))
  obtain ⟨B0c0, B0c1, B0c2, B0l⟩ := B0x.facts3
  obtain ⟨B1c0, B1c1, B1c2, B1l⟩ := B1x.facts3
  obtain ⟨B2c0, B2c1, B2c2, B2l⟩ := B2x.facts3
  obtain ⟨B3c0, B3c1, B3l⟩ := B3x.facts2
  clear B0 B1 B2 B3 O2 hR
  have B0 := Lib.hid B0x; have B1 := Lib.hid B1x; have B2 := Lib.hid B2x; have B3 := Lib.hid B3x; have O3 := Lib.hid O3x
  clear B0x B1x B2x B3x O3x
  go_wp2_with (fail)
  go_wp2_with (fail)
  refine (of_any a _).mono ?_
  rintro e w4 ⟨rfl, o⟩
  have B0x := o.blk (t := 25) (cs := #[.int .i64 a.1.1, .int .i64 a.1.2, .int .i64 a.2]) (g := w.heap.size) (by first | exact B0.out | exact Blk.drewN B0.out _ | exact Blk.drew B0.out) (by simp)
  have B1x := o.blk (t := 25) (cs := #[.int .i64 b.1.1, .int .i64 b.1.2, .int .i64 b.2]) (g := w.heap.size + 1) (by first | exact B1.out | exact Blk.drewN B1.out _ | exact Blk.drew B1.out) (by simp)
  have B2x := o.blk (t := 25) (cs := #[.int .i64 c.1.1, .int .i64 c.1.2, .int .i64 c.2]) (g := w.heap.size + 2) (by first | exact B2.out | exact Blk.drewN B2.out _ | exact Blk.drew B2.out) (by simp)
  have B3x := o.blk (t := 23) (cs := #[.int .i64 t.1, .int .i64 t.2]) (g := w.heap.size + 3) (by first | exact B3.out | exact Blk.drewN B3.out _ | exact Blk.drew B3.out) (by simp)
  have O4x : Only [] w w4 := (by first | exact Only.trans O3.out o (by simp) | exact Only.trans (Only.drewN O3.out _) o (by simp) | exact Only.trans (Only.drew O3.out) o (by simp))
  obtain ⟨B0c0, B0c1, B0c2, B0l⟩ := B0x.facts3
  obtain ⟨B1c0, B1c1, B1c2, B1l⟩ := B1x.facts3
  obtain ⟨B2c0, B2c1, B2c2, B2l⟩ := B2x.facts3
  obtain ⟨B3c0, B3c1, B3l⟩ := B3x.facts2
  clear B0 B1 B2 B3 O3 o
  have B0 := Lib.hid B0x; have B1 := Lib.hid B1x; have B2 := Lib.hid B2x; have B3 := Lib.hid B3x; have O4 := Lib.hid O4x
  clear B0x B1x B2x B3x O4x
  go_wp2_with (fail)
  refine (strightr ha Ra.out _).mono ?_
  rintro e w5 ⟨rfl, o⟩
  have B0x := o.blk (t := 25) (cs := #[.int .i64 a.1.1, .int .i64 a.1.2, .int .i64 a.2]) (g := w.heap.size) (by first | exact B0.out | exact Blk.drewN B0.out _ | exact Blk.drew B0.out) (by simp)
  have B1x := o.blk (t := 25) (cs := #[.int .i64 b.1.1, .int .i64 b.1.2, .int .i64 b.2]) (g := w.heap.size + 1) (by first | exact B1.out | exact Blk.drewN B1.out _ | exact Blk.drew B1.out) (by simp)
  have B2x := o.blk (t := 25) (cs := #[.int .i64 c.1.1, .int .i64 c.1.2, .int .i64 c.2]) (g := w.heap.size + 2) (by first | exact B2.out | exact Blk.drewN B2.out _ | exact Blk.drew B2.out) (by simp)
  have B3x := o.blk (t := 23) (cs := #[.int .i64 t.1, .int .i64 t.2]) (g := w.heap.size + 3) (by first | exact B3.out | exact Blk.drewN B3.out _ | exact Blk.drew B3.out) (by simp)
  have O5x : Only [] w w5 := (by first | exact Only.trans O4.out o (by simp) | exact Only.trans (Only.drewN O4.out _) o (by simp) | exact Only.trans (Only.drew O4.out) o (by simp))
  obtain ⟨B0c0, B0c1, B0c2, B0l⟩ := B0x.facts3
  obtain ⟨B1c0, B1c1, B1c2, B1l⟩ := B1x.facts3
  obtain ⟨B2c0, B2c1, B2c2, B2l⟩ := B2x.facts3
  obtain ⟨B3c0, B3c1, B3l⟩ := B3x.facts2
  clear B0 B1 B2 B3 O4 o
  have B0 := Lib.hid B0x; have B1 := Lib.hid B1x; have B2 := Lib.hid B2x; have B3 := Lib.hid B3x; have O5 := Lib.hid O5x
  clear B0x B1x B2x B3x O5x
  go_wp2_with (fail)
  refine (of_any b _).mono ?_
  rintro e w6 ⟨rfl, o⟩
  have B0x := o.blk (t := 25) (cs := #[.int .i64 a.1.1, .int .i64 a.1.2, .int .i64 a.2]) (g := w.heap.size) (by first | exact B0.out | exact Blk.drewN B0.out _ | exact Blk.drew B0.out) (by simp)
  have B1x := o.blk (t := 25) (cs := #[.int .i64 b.1.1, .int .i64 b.1.2, .int .i64 b.2]) (g := w.heap.size + 1) (by first | exact B1.out | exact Blk.drewN B1.out _ | exact Blk.drew B1.out) (by simp)
  have B2x := o.blk (t := 25) (cs := #[.int .i64 c.1.1, .int .i64 c.1.2, .int .i64 c.2]) (g := w.heap.size + 2) (by first | exact B2.out | exact Blk.drewN B2.out _ | exact Blk.drew B2.out) (by simp)
  have B3x := o.blk (t := 23) (cs := #[.int .i64 t.1, .int .i64 t.2]) (g := w.heap.size + 3) (by first | exact B3.out | exact Blk.drewN B3.out _ | exact Blk.drew B3.out) (by simp)
  have O6x : Only [] w w6 := (by first | exact Only.trans O5.out o (by simp) | exact Only.trans (Only.drewN O5.out _) o (by simp) | exact Only.trans (Only.drew O5.out) o (by simp))
  obtain ⟨B0c0, B0c1, B0c2, B0l⟩ := B0x.facts3
  obtain ⟨B1c0, B1c1, B1c2, B1l⟩ := B1x.facts3
  obtain ⟨B2c0, B2c1, B2c2, B2l⟩ := B2x.facts3
  obtain ⟨B3c0, B3c1, B3l⟩ := B3x.facts2
  clear B0 B1 B2 B3 O5 o
  have B0 := Lib.hid B0x; have B1 := Lib.hid B1x; have B2 := Lib.hid B2x; have B3 := Lib.hid B3x; have O6 := Lib.hid O6x
  clear B0x B1x B2x B3x O6x
  go_wp2_with (fail)
  refine (strightr hb Rb.out _).mono ?_
  rintro e w7 ⟨rfl, o⟩
  have B0x := o.blk (t := 25) (cs := #[.int .i64 a.1.1, .int .i64 a.1.2, .int .i64 a.2]) (g := w.heap.size) (by first | exact B0.out | exact Blk.drewN B0.out _ | exact Blk.drew B0.out) (by simp)
  have B1x := o.blk (t := 25) (cs := #[.int .i64 b.1.1, .int .i64 b.1.2, .int .i64 b.2]) (g := w.heap.size + 1) (by first | exact B1.out | exact Blk.drewN B1.out _ | exact Blk.drew B1.out) (by simp)
  have B2x := o.blk (t := 25) (cs := #[.int .i64 c.1.1, .int .i64 c.1.2, .int .i64 c.2]) (g := w.heap.size + 2) (by first | exact B2.out | exact Blk.drewN B2.out _ | exact Blk.drew B2.out) (by simp)
  have B3x := o.blk (t := 23) (cs := #[.int .i64 t.1, .int .i64 t.2]) (g := w.heap.size + 3) (by first | exact B3.out | exact Blk.drewN B3.out _ | exact Blk.drew B3.out) (by simp)
  have O7x : Only [] w w7 := (by first | exact Only.trans O6.out o (by simp) | exact Only.trans (Only.drewN O6.out _) o (by simp) | exact Only.trans (Only.drew O6.out) o (by simp))
  obtain ⟨B0c0, B0c1, B0c2, B0l⟩ := B0x.facts3
  obtain ⟨B1c0, B1c1, B1c2, B1l⟩ := B1x.facts3
  obtain ⟨B2c0, B2c1, B2c2, B2l⟩ := B2x.facts3
  obtain ⟨B3c0, B3c1, B3l⟩ := B3x.facts2
  clear B0 B1 B2 B3 O6 o
  have B0 := Lib.hid B0x; have B1 := Lib.hid B1x; have B2 := Lib.hid B2x; have B3 := Lib.hid B3x; have O7 := Lib.hid O7x
  clear B0x B1x B2x B3x O7x
  go_wp2_with (fail)
  refine (of_any c _).mono ?_
  rintro e w8 ⟨rfl, o⟩
  have B0x := o.blk (t := 25) (cs := #[.int .i64 a.1.1, .int .i64 a.1.2, .int .i64 a.2]) (g := w.heap.size) (by first | exact B0.out | exact Blk.drewN B0.out _ | exact Blk.drew B0.out) (by simp)
  have B1x := o.blk (t := 25) (cs := #[.int .i64 b.1.1, .int .i64 b.1.2, .int .i64 b.2]) (g := w.heap.size + 1) (by first | exact B1.out | exact Blk.drewN B1.out _ | exact Blk.drew B1.out) (by simp)
  have B2x := o.blk (t := 25) (cs := #[.int .i64 c.1.1, .int .i64 c.1.2, .int .i64 c.2]) (g := w.heap.size + 2) (by first | exact B2.out | exact Blk.drewN B2.out _ | exact Blk.drew B2.out) (by simp)
  have B3x := o.blk (t := 23) (cs := #[.int .i64 t.1, .int .i64 t.2]) (g := w.heap.size + 3) (by first | exact B3.out | exact Blk.drewN B3.out _ | exact Blk.drew B3.out) (by simp)
  have O8x : Only [] w w8 := (by first | exact Only.trans O7.out o (by simp) | exact Only.trans (Only.drewN O7.out _) o (by simp) | exact Only.trans (Only.drew O7.out) o (by simp))
  obtain ⟨B0c0, B0c1, B0c2, B0l⟩ := B0x.facts3
  obtain ⟨B1c0, B1c1, B1c2, B1l⟩ := B1x.facts3
  obtain ⟨B2c0, B2c1, B2c2, B2l⟩ := B2x.facts3
  obtain ⟨B3c0, B3c1, B3l⟩ := B3x.facts2
  clear B0 B1 B2 B3 O7 o
  have B0 := Lib.hid B0x; have B1 := Lib.hid B1x; have B2 := Lib.hid B2x; have B3 := Lib.hid B3x; have O8 := Lib.hid O8x
  clear B0x B1x B2x B3x O8x
  go_wp2_with (fail)
  refine (strightr hc Rc.out _).mono ?_
  rintro e w9 ⟨rfl, o⟩
  have B0x := o.blk (t := 25) (cs := #[.int .i64 a.1.1, .int .i64 a.1.2, .int .i64 a.2]) (g := w.heap.size) (by first | exact B0.out | exact Blk.drewN B0.out _ | exact Blk.drew B0.out) (by simp)
  have B1x := o.blk (t := 25) (cs := #[.int .i64 b.1.1, .int .i64 b.1.2, .int .i64 b.2]) (g := w.heap.size + 1) (by first | exact B1.out | exact Blk.drewN B1.out _ | exact Blk.drew B1.out) (by simp)
  have B2x := o.blk (t := 25) (cs := #[.int .i64 c.1.1, .int .i64 c.1.2, .int .i64 c.2]) (g := w.heap.size + 2) (by first | exact B2.out | exact Blk.drewN B2.out _ | exact Blk.drew B2.out) (by simp)
  have B3x := o.blk (t := 23) (cs := #[.int .i64 t.1, .int .i64 t.2]) (g := w.heap.size + 3) (by first | exact B3.out | exact Blk.drewN B3.out _ | exact Blk.drew B3.out) (by simp)
  have O9x : Only [] w w9 := (by first | exact Only.trans O8.out o (by simp) | exact Only.trans (Only.drewN O8.out _) o (by simp) | exact Only.trans (Only.drew O8.out) o (by simp))
  obtain ⟨B0c0, B0c1, B0c2, B0l⟩ := B0x.facts3
  obtain ⟨B1c0, B1c1, B1c2, B1l⟩ := B1x.facts3
  obtain ⟨B2c0, B2c1, B2c2, B2l⟩ := B2x.facts3
  obtain ⟨B3c0, B3c1, B3l⟩ := B3x.facts2
  clear B0 B1 B2 B3 O8 o
  have B0 := Lib.hid B0x; have B1 := Lib.hid B1x; have B2 := Lib.hid B2x; have B3 := Lib.hid B3x; have O9 := Lib.hid O9x
  clear B0x B1x B2x B3x O9x
  go_wp2_with (fail)
  refine wp_region_facts 26 [] (fr := ?frc) (tl := ?tlc) (fun i v wv => match i with
    | 0 => v = .int .i64 x
    | 1 => v = .bool p
    | 2 => v = .agg #[.int .i64 a.1.1, .int .i64 a.1.2, .int .i64 a.2]
    | 3 => v = .agg #[.int .i64 b.1.1, .int .i64 b.1.2, .int .i64 b.2]
    | 4 => v = .bool p
    | 5 => v = .bool false
    | 6 => v = .bool false
    | 7 => v = .int .i64 x
    | 8 => v = .bool true
    | 9 => v = .bool true
    | 10 => v = .agg #[.int .i64 b.1.1, .int .i64 b.1.2, .int .i64 b.2]
    | 11 => v = .agg #[.int .i64 b.1.1, .int .i64 b.1.2, .int .i64 b.2]
    | 12 => v = .agg #[.int .i64 c.1.1, .int .i64 c.1.2, .int .i64 c.2]
    | 13 => v = .agg #[.int .i64 c.1.1, .int .i64 c.1.2, .int .i64 c.2]
    | 14 => v = .int .i64 s
    | 15 => v = .bool true
    | 16 => v = .bool true
    | 17 => v = .bool true
    | 18 => v = .agg #[.int .i64 a.1.1, .int .i64 a.1.2, .int .i64 a.2]
    | 19 => v = .agg #[.int .i64 a.1.1, .int .i64 a.1.2, .int .i64 a.2]
    | 20 => v = .agg #[.int .i64 c.1.1, .int .i64 c.1.2, .int .i64 c.2]
    | 21 => v = .agg #[.int .i64 c.1.1, .int .i64 c.1.2, .int .i64 c.2]
    | 22 => v = .int .i64 k
    | 23 => v = .bool false
    | 24 => v = .bool false
    | 25 => v = .bool false
    | _ => True) (by kernel_rfl) (by kernel_rfl) (by kernel_rfl) (by kernel_rfl) (by decide) ?htlc ?hfrc ?stabc ?stepsc ?donec
  case htlc => simp only [List.drop_succ_cons, List.drop_zero]; rfl
  case hfrc => intro vals; simp only [putAll, dstAt, Act.put, List.getElem?_toArray, List.getElem?_cons_zero, List.getElem?_cons_succ, Option.bind_some, List.setIfInBounds_toArray, List.set_cons_zero, List.set_cons_succ]; rfl
  case stabc =>
    intro i v wa wb h
    try dsimp only
    split <;> first | exact id | fail
  case stepsc =>
    refine ⟨?_, ?_, ?_, ?_, ?_, ?_, ?_, ?_, ?_, ?_, ?_, ?_, ?_, ?_, ?_, ?_, ?_, ?_, ?_, ?_, ?_, ?_, ?_, ?_, ?_, ?_, trivial⟩
    · intro vals wr hR hp K hK
      dsimp only at hK ⊢
      clear hp
      unfold RunsOp
      go_simp
      exact hK.out _ _ ⟨_, rfl, Only.refl _ _, rfl⟩
    · intro vals wr hR hp K hK
      dsimp only at hK ⊢
      obtain ⟨p0, -⟩ := hp
      replace p0 := p0 rfl
      dsimp only at p0
      rw [p0] at hK ⊢
      clear p0
      unfold RunsOp
      go_simp
      exact hK.out _ _ ⟨_, rfl, Only.refl _ _, rfl⟩
    · intro vals wr hR hp K hK
      dsimp only at hK ⊢
      clear hp
      unfold RunsOp
      have tb0 := hR.blk (by first | exact B0.out | exact Blk.drew B0.out) (by simp)
      obtain ⟨c00, c01, c02, cl0⟩ := tb0.facts3
      clear tb0
      go_simp
      exact hK.out _ _ ⟨_, rfl, Only.refl _ _, rfl⟩
    · intro vals wr hR hp K hK
      dsimp only at hK ⊢
      clear hp
      unfold RunsOp
      have tb1 := hR.blk (by first | exact B1.out | exact Blk.drew B1.out) (by simp)
      obtain ⟨c10, c11, c12, cl1⟩ := tb1.facts3
      clear tb1
      go_simp
      exact hK.out _ _ ⟨_, rfl, Only.refl _ _, rfl⟩
    · intro vals wr hR hp K hK
      dsimp only at hK ⊢
      obtain ⟨p2, p3, -⟩ := hp
      replace p2 := p2 rfl
      replace p3 := p3 rfl
      dsimp only at p2 p3
      rw [p2, p3] at hK ⊢
      clear p2 p3
      unfold RunsOp
      go_simp
      exact hK.out _ _ ⟨_, rfl, Only.refl _ _, rfl⟩
    · intro vals wr hR hp K hK
      dsimp only at hK ⊢
      obtain ⟨p1, p4, -⟩ := hp
      replace p1 := p1 rfl
      replace p4 := p4 rfl
      dsimp only at p1 p4
      rw [p1, p4] at hK ⊢
      clear p1 p4
      unfold RunsOp
      go_simp
      exact hK.out _ _ ⟨_, rfl, Only.refl _ _, rfl⟩
    · intro vals wr hR hp K hK
      dsimp only at hK ⊢
      obtain ⟨p5, -⟩ := hp
      replace p5 := p5 rfl
      dsimp only at p5
      rw [p5] at hK ⊢
      clear p5
      unfold RunsOp
      go_simp
      exact hK.out _ _ ⟨_, rfl, Only.refl _ _, rfl⟩
    · intro vals wr hR hp K hK
      dsimp only at hK ⊢
      obtain ⟨p6, -⟩ := hp
      replace p6 := p6 rfl
      dsimp only at p6
      rw [p6] at hK ⊢
      clear p6
      unfold RunsOp
      go_simp
      exact hK.out _ _ ⟨_, rfl, Only.refl _ _, rfl⟩
    · intro vals wr hR hp K hK
      dsimp only at hK ⊢
      obtain ⟨p7, p6, -⟩ := hp
      replace p7 := p7 rfl
      replace p6 := p6 rfl
      dsimp only at p7 p6
      rw [p7, p6] at hK ⊢
      clear p7 p6
      unfold RunsOp
      go_simp
      exact hK.out _ _ ⟨_, rfl, Only.refl _ _, rfl⟩
    · intro vals wr hR hp K hK
      dsimp only at hK ⊢
      obtain ⟨p8, p6, -, -⟩ := hp
      replace p8 := p8 rfl
      replace p6 := p6 rfl
      dsimp only at p8 p6
      rw [p8, p6] at hK ⊢
      clear p8 p6
      unfold RunsOp
      go_simp
      exact hK.out _ _ ⟨_, rfl, Only.refl _ _, rfl⟩
    · intro vals wr hR hp K hK
      dsimp only at hK ⊢
      obtain ⟨p9, -⟩ := hp
      replace p9 := p9 rfl
      dsimp only at p9
      rw [p9] at hK ⊢
      clear p9
      unfold RunsOp
      have tb1 := hR.blk (by first | exact B1.out | exact Blk.drew B1.out) (by simp)
      obtain ⟨c10, c11, c12, cl1⟩ := tb1.facts3
      clear tb1
      go_simp
      exact hK.out _ _ ⟨_, rfl, Only.refl _ _, rfl⟩
    · intro vals wr hR hp K hK
      dsimp only at hK ⊢
      obtain ⟨p10, p9, -, -⟩ := hp
      replace p10 := p10 rfl
      replace p9 := p9 rfl
      dsimp only at p10 p9
      rw [p10, p9] at hK ⊢
      clear p10 p9
      unfold RunsOp
      go_simp
      refine (of_any b _).mono ?_
      rintro e w2 ⟨rfl, o2⟩
      exact hK.out _ _ ⟨_, rfl, o2, rfl⟩
    · intro vals wr hR hp K hK
      dsimp only at hK ⊢
      obtain ⟨p9, -⟩ := hp
      replace p9 := p9 rfl
      dsimp only at p9
      rw [p9] at hK ⊢
      clear p9
      unfold RunsOp
      have tb2 := hR.blk (by first | exact B2.out | exact Blk.drew B2.out) (by simp)
      obtain ⟨c20, c21, c22, cl2⟩ := tb2.facts3
      clear tb2
      go_simp
      exact hK.out _ _ ⟨_, rfl, Only.refl _ _, rfl⟩
    · intro vals wr hR hp K hK
      dsimp only at hK ⊢
      obtain ⟨p12, -, p9, -⟩ := hp
      replace p12 := p12 rfl
      replace p9 := p9 rfl
      dsimp only at p12 p9
      rw [p12, p9] at hK ⊢
      clear p12 p9
      unfold RunsOp
      go_simp
      refine (of_any c _).mono ?_
      rintro e w2 ⟨rfl, o2⟩
      exact hK.out _ _ ⟨_, rfl, o2, rfl⟩
    · intro vals wr hR hp K hK
      dsimp only at hK ⊢
      obtain ⟨p11, p13, -, p9, -⟩ := hp
      replace p11 := p11 rfl
      replace p13 := p13 rfl
      replace p9 := p9 rfl
      dsimp only at p11 p13 p9
      obtain p11 := p11
      obtain p13 := p13
      rw [p11, p13, p9] at hK ⊢
      clear p11 p13 p9
      unfold RunsOp
      go_simp
      refine (stcmpr b c hb hc H3.out _).mono ?_
      rintro e w2 ⟨rfl, o2⟩
      exact hK.out _ _ ⟨_, rfl, o2, rfl⟩
    · intro vals wr hR hp K hK
      dsimp only at hK ⊢
      obtain ⟨p14, p9, -⟩ := hp
      replace p14 := p14 rfl
      replace p9 := p9 rfl
      dsimp only at p14 p9
      obtain p14 := p14
      rw [p14, p9] at hK ⊢
      clear p14 p9
      unfold RunsOp
      go_simp
      exact hK.out _ _ ⟨_, rfl, Only.refl _ _, rfl⟩
    · intro vals wr hR hp K hK
      dsimp only at hK ⊢
      obtain ⟨p9, p15, p6, -⟩ := hp
      replace p9 := p9 rfl
      replace p15 := p15 rfl
      replace p6 := p6 rfl
      dsimp only at p9 p15 p6
      rw [p9, p15, p6] at hK ⊢
      clear p9 p15 p6
      unfold RunsOp
      go_simp
      exact hK.out _ _ ⟨_, rfl, Only.refl _ _, rfl⟩
    · intro vals wr hR hp K hK
      dsimp only at hK ⊢
      obtain ⟨p16, -, p6, -⟩ := hp
      replace p16 := p16 rfl
      replace p6 := p6 rfl
      dsimp only at p16 p6
      rw [p16, p6] at hK ⊢
      clear p16 p6
      unfold RunsOp
      go_simp
      exact hK.out _ _ ⟨_, rfl, Only.refl _ _, rfl⟩
    · intro vals wr hR hp K hK
      dsimp only at hK ⊢
      obtain ⟨p17, -⟩ := hp
      replace p17 := p17 rfl
      dsimp only at p17
      rw [p17] at hK ⊢
      clear p17
      unfold RunsOp
      have tb0 := hR.blk (by first | exact B0.out | exact Blk.drew B0.out) (by simp)
      obtain ⟨c00, c01, c02, cl0⟩ := tb0.facts3
      clear tb0
      go_simp
      exact hK.out _ _ ⟨_, rfl, Only.refl _ _, rfl⟩
    · intro vals wr hR hp K hK
      dsimp only at hK ⊢
      obtain ⟨p18, p17, -, -⟩ := hp
      replace p18 := p18 rfl
      replace p17 := p17 rfl
      dsimp only at p18 p17
      rw [p18, p17] at hK ⊢
      clear p18 p17
      unfold RunsOp
      go_simp
      refine (of_any a _).mono ?_
      rintro e w2 ⟨rfl, o2⟩
      exact hK.out _ _ ⟨_, rfl, o2, rfl⟩
    · intro vals wr hR hp K hK
      dsimp only at hK ⊢
      obtain ⟨p17, -⟩ := hp
      replace p17 := p17 rfl
      dsimp only at p17
      rw [p17] at hK ⊢
      clear p17
      unfold RunsOp
      have tb2 := hR.blk (by first | exact B2.out | exact Blk.drew B2.out) (by simp)
      obtain ⟨c20, c21, c22, cl2⟩ := tb2.facts3
      clear tb2
      go_simp
      exact hK.out _ _ ⟨_, rfl, Only.refl _ _, rfl⟩
    · intro vals wr hR hp K hK
      dsimp only at hK ⊢
      obtain ⟨p20, -, p17, -⟩ := hp
      replace p20 := p20 rfl
      replace p17 := p17 rfl
      dsimp only at p20 p17
      rw [p20, p17] at hK ⊢
      clear p20 p17
      unfold RunsOp
      go_simp
      refine (of_any c _).mono ?_
      rintro e w2 ⟨rfl, o2⟩
      exact hK.out _ _ ⟨_, rfl, o2, rfl⟩
    · intro vals wr hR hp K hK
      dsimp only at hK ⊢
      obtain ⟨p19, p21, -, p17, -⟩ := hp
      replace p19 := p19 rfl
      replace p21 := p21 rfl
      replace p17 := p17 rfl
      dsimp only at p19 p21 p17
      obtain p19 := p19
      obtain p21 := p21
      rw [p19, p21, p17] at hK ⊢
      clear p19 p21 p17
      unfold RunsOp
      go_simp
      refine (stcmpr a c ha hc H4.out _).mono ?_
      rintro e w2 ⟨rfl, o2⟩
      exact hK.out _ _ ⟨_, rfl, o2, rfl⟩
    · intro vals wr hR hp K hK
      dsimp only at hK ⊢
      obtain ⟨p22, p17, -⟩ := hp
      replace p22 := p22 rfl
      replace p17 := p17 rfl
      dsimp only at p22 p17
      obtain p22 := p22
      rw [p22, p17] at hK ⊢
      clear p22 p17
      unfold RunsOp
      go_simp
      exact hK.out _ _ ⟨_, rfl, Only.refl _ _, rfl⟩
    · intro vals wr hR hp K hK
      dsimp only at hK ⊢
      obtain ⟨p17, p23, p6, -⟩ := hp
      replace p17 := p17 rfl
      replace p23 := p23 rfl
      replace p6 := p6 rfl
      dsimp only at p17 p23 p6
      rw [p17, p23, p6] at hK ⊢
      clear p17 p23 p6
      unfold RunsOp
      go_simp
      exact hK.out _ _ ⟨_, rfl, Only.refl _ _, rfl⟩
    · intro vals wr hR hp K hK
      dsimp only at hK ⊢
      obtain ⟨p6, p24, -⟩ := hp
      replace p6 := p6 rfl
      replace p24 := p24 rfl
      dsimp only at p6 p24
      rw [p6, p24] at hK ⊢
      clear p6 p24
      unfold RunsOp
      go_simp
      exact hK.out _ _ ⟨_, rfl, Only.refl _ _, rfl⟩
  intro vals w10 hR hF
  have f25 : vals 25 = .bool false := hF 25 (by decide)
  rw [f25]
  clear hF f25
  refine wpList_nil ?_
  have B0x := hR.blk (t := 25) (cs := #[.int .i64 a.1.1, .int .i64 a.1.2, .int .i64 a.2]) (g := w.heap.size) (by first | exact B0.out | exact Blk.drewN B0.out _ | exact Blk.drew B0.out) (by simp)
  have B1x := hR.blk (t := 25) (cs := #[.int .i64 b.1.1, .int .i64 b.1.2, .int .i64 b.2]) (g := w.heap.size + 1) (by first | exact B1.out | exact Blk.drewN B1.out _ | exact Blk.drew B1.out) (by simp)
  have B2x := hR.blk (t := 25) (cs := #[.int .i64 c.1.1, .int .i64 c.1.2, .int .i64 c.2]) (g := w.heap.size + 2) (by first | exact B2.out | exact Blk.drewN B2.out _ | exact Blk.drew B2.out) (by simp)
  have B3x := hR.blk (t := 23) (cs := #[.int .i64 t.1, .int .i64 t.2]) (g := w.heap.size + 3) (by first | exact B3.out | exact Blk.drewN B3.out _ | exact Blk.drew B3.out) (by simp)
  have O10x : Only [] w w10 := (by first | exact Only.trans O9.out hR (by simp) | exact Only.trans (Only.drewN O9.out _) hR (by simp) | exact Only.trans (Only.drew O9.out) hR (by simp))
  obtain ⟨B0c0, B0c1, B0c2, B0l⟩ := B0x.facts3
  obtain ⟨B1c0, B1c1, B1c2, B1l⟩ := B1x.facts3
  obtain ⟨B2c0, B2c1, B2c2, B2l⟩ := B2x.facts3
  obtain ⟨B3c0, B3c1, B3l⟩ := B3x.facts2
  clear B0 B1 B2 B3 O9 hR
  have B0 := Lib.hid B0x; have B1 := Lib.hid B1x; have B2 := Lib.hid B2x; have B3 := Lib.hid B3x; have O10 := Lib.hid O10x
  clear B0x B1x B2x B3x O10x
  go_wp2_with (fail)
  go_wp2_with (fail)
  refine wp_region_factsD 8 [6] [] (fr := ?frd) (tl := ?tld) (fun i v wv => match i with
    | 0 => v = .agg #[.int .i64 a.1.1, .int .i64 a.1.2, .int .i64 a.2]
    | 1 => v = .agg #[.int .i64 a.1.1, .int .i64 a.1.2, .int .i64 a.2]
    | 2 => v = .agg #[.int .i64 t.1, .int .i64 t.2]
    | 3 => v = .tuple #[.agg #[.int .i64 u.1.1, .int .i64 u.1.2, .int .i64 u.2], .int .i64 0]
    | 4 => v = .tuple #[.agg #[.int .i64 u.1.1, .int .i64 u.1.2, .int .i64 u.2], .int .i64 0]
    | 5 => v = .agg #[.int .i64 u.1.1, .int .i64 u.1.2, .int .i64 u.2]
    | 6 => v = .int .i64 0
    | 7 => ∃ g, w.heap.size + 4 ≤ g ∧ v = .pointer (some ⟨g, 0, none⟩) ∧ Blk wv g 27 #[.int .i64 0, .int .i64 0, .int .i64 0]
    | _ => True) (by kernel_rfl) (by kernel_rfl) (by kernel_rfl) (by kernel_rfl) (by kernel_rfl) (by kernel_rfl) (by decide) (fun _ _ _ _ _ h => h) ?htld ?hfrd ?stabd ?detsd ?stepsd ?doned
  case htld => simp only [List.drop_succ_cons, List.drop_zero]; rfl
  case hfrd => intro vals; simp only [putAll, dstAt, Act.put, List.getElem?_toArray, List.getElem?_cons_zero, List.getElem?_cons_succ, Option.bind_some, List.setIfInBounds_toArray, List.set_cons_zero, List.set_cons_succ]; rfl
  case stabd =>
    intro i v wa wb h
    try dsimp only
    split <;> first | exact id | (rintro ⟨g, hg, e, hb⟩; exact ⟨g, hg, e, h.blk hb (by simp)⟩)
  case detsd =>
    refine ⟨?_, trivial⟩
    · intro o ho vals wr hR hp
      cases ho
      obtain ⟨p4, -, -⟩ := hp
      replace p4 := p4 rfl
      dsimp only at p4
      dsimp only
      rw [p4]
      refine ⟨.int .i64 0, Or.inl ⟨by rfl, fun wz => ?_⟩, rfl⟩
      go_simp
  case stepsd =>
    refine ⟨?_, ?_, ?_, ?_, ?_, ?_, ?_, ?_, trivial⟩
    · refine .inr ?_
      intro vals wr hR hp K hK
      dsimp only at hK ⊢
      clear hp
      unfold RunsOp
      have tb0 := hR.blk (by first | exact B0.out | exact Blk.drew B0.out) (by simp)
      obtain ⟨c00, c01, c02, cl0⟩ := tb0.facts3
      clear tb0
      go_simp
      exact hK.out _ _ ⟨_, rfl, Only.refl _ _, rfl⟩
    · refine .inr ?_
      intro vals wr hR hp K hK
      dsimp only at hK ⊢
      obtain ⟨p0, -⟩ := hp
      replace p0 := p0 rfl
      dsimp only at p0
      rw [p0] at hK ⊢
      clear p0
      unfold RunsOp
      go_simp
      refine (of_any a _).mono ?_
      rintro e w2 ⟨rfl, o2⟩
      exact hK.out _ _ ⟨_, rfl, o2, rfl⟩
    · refine .inr ?_
      intro vals wr hR hp K hK
      dsimp only at hK ⊢
      clear hp
      unfold RunsOp
      have tb3 := hR.blk (by first | exact B3.out | exact Blk.drew B3.out) (by simp)
      obtain ⟨c30, c31, cl3⟩ := tb3.facts2
      clear tb3
      go_simp
      exact hK.out _ _ ⟨_, rfl, Only.refl _ _, rfl⟩
    · refine .inr ?_
      intro vals wr hR hp K hK
      dsimp only at hK ⊢
      obtain ⟨p1, p2, -, -⟩ := hp
      replace p1 := p1 rfl
      replace p2 := p2 rfl
      dsimp only at p1 p2
      obtain p1 := p1
      rw [p1, p2] at hK ⊢
      clear p1 p2
      unfold RunsOp
      go_simp
      refine (afterr a t ha to H5.out _).mono ?_
      rintro e w2 ⟨rfl, o2⟩
      exact hK.out _ _ ⟨_, rfl, o2, rfl⟩
    · refine .inr ?_
      intro vals wr hR hp K hK
      dsimp only at hK ⊢
      obtain ⟨p3, -⟩ := hp
      replace p3 := p3 rfl
      dsimp only at p3
      obtain p3 := p3
      rw [p3] at hK ⊢
      clear p3
      unfold RunsOp
      go_simp
      exact hK.out _ _ ⟨_, rfl, Only.refl _ _, rfl⟩
    · refine .inr ?_
      intro vals wr hR hp K hK
      dsimp only at hK ⊢
      obtain ⟨p4, -⟩ := hp
      replace p4 := p4 rfl
      dsimp only at p4
      rw [p4] at hK ⊢
      clear p4
      unfold RunsOp
      go_simp
      exact hK.out _ _ ⟨_, rfl, Only.refl _ _, rfl⟩
    · exact .inl (by decide)
    · refine .inr ?_
      intro vals wr hR hp K hK
      dsimp only at hK ⊢
      clear hp
      unfold RunsOp
      have hsz := hR.size
      have hs0 := O10.out.size
      go_simp
      exact hK.out _ _ ⟨_, rfl, (Only.refl [] wr).alloc _, ⟨_, by simp at hsz hs0 B3l; omega, rfl, Blk.new wr 27 _⟩⟩
  intro vals w11 hR hF
  have f5 : vals 5 = .agg #[.int .i64 u.1.1, .int .i64 u.1.2, .int .i64 u.2] := hF 5 (by decide)
  have f6 : vals 6 = .int .i64 0 := hF 6 (by decide)
  have f7 : ∃ g, w.heap.size + 4 ≤ g ∧ (vals 7) = .pointer (some ⟨g, 0, none⟩) ∧ Blk w11 g 27 #[.int .i64 0, .int .i64 0, .int .i64 0] := hF 7 (by decide)
  rw [f5, f6]
  clear hF f5 f6
  have B0x := hR.blk (t := 25) (cs := #[.int .i64 a.1.1, .int .i64 a.1.2, .int .i64 a.2]) (g := w.heap.size) (by first | exact B0.out | exact Blk.drewN B0.out _ | exact Blk.drew B0.out) (by simp)
  have B1x := hR.blk (t := 25) (cs := #[.int .i64 b.1.1, .int .i64 b.1.2, .int .i64 b.2]) (g := w.heap.size + 1) (by first | exact B1.out | exact Blk.drewN B1.out _ | exact Blk.drew B1.out) (by simp)
  have B2x := hR.blk (t := 25) (cs := #[.int .i64 c.1.1, .int .i64 c.1.2, .int .i64 c.2]) (g := w.heap.size + 2) (by first | exact B2.out | exact Blk.drewN B2.out _ | exact Blk.drew B2.out) (by simp)
  have B3x := hR.blk (t := 23) (cs := #[.int .i64 t.1, .int .i64 t.2]) (g := w.heap.size + 3) (by first | exact B3.out | exact Blk.drewN B3.out _ | exact Blk.drew B3.out) (by simp)
  have O11x : Only [] w w11 := (by first | exact Only.trans O10.out hR (by simp) | exact Only.trans (Only.drewN O10.out _) hR (by simp) | exact Only.trans (Only.drew O10.out) hR (by simp))
  obtain ⟨B0c0, B0c1, B0c2, B0l⟩ := B0x.facts3
  obtain ⟨B1c0, B1c1, B1c2, B1l⟩ := B1x.facts3
  obtain ⟨B2c0, B2c1, B2c2, B2l⟩ := B2x.facts3
  obtain ⟨B3c0, B3c1, B3l⟩ := B3x.facts2
  clear B0 B1 B2 B3 O10 hR
  have B0 := Lib.hid B0x; have B1 := Lib.hid B1x; have B2 := Lib.hid B2x; have B3 := Lib.hid B3x; have O11 := Lib.hid O11x
  clear B0x B1x B2x B3x O11x
  obtain ⟨g, hg, e7, hb7⟩ := f7
  rw [e7]
  clear e7
  obtain ⟨B4c0, B4c1, B4c2, B4l⟩ := hb7.facts3
  have fr0 := hb7.frozen 0
  have fr1 := hb7.frozen 1
  have fr2 := hb7.frozen 2
  have B4 := Lib.hid hb7
  clear hb7
  have n0 : ¬ g = w.heap.size := by omega
  have n1 : ¬ g = w.heap.size + 1 := by omega
  have n2 : ¬ g = w.heap.size + 2 := by omega
  have n3 : ¬ g = w.heap.size + 3 := by omega
  have n0' : ¬ w.heap.size = g := by omega
  have n1' : ¬ w.heap.size + 1 = g := by omega
  have n2' : ¬ w.heap.size + 2 = g := by omega
  have n3' : ¬ w.heap.size + 3 = g := by omega
  go_wp2_with (fail)
  obtain ⟨wb, hwb⟩ : ∃ wb, (((w11.setCell ⟨g, 0, none⟩ (.int .i64 u.1.1)).setCell ⟨g, 1, none⟩ (.int .i64 u.1.2)).setCell ⟨g, 2, none⟩ (.int .i64 u.2)) = wb := ⟨_, rfl⟩
  rw [hwb]
  have B0x : Blk wb (w.heap.size) 25 #[.int .i64 a.1.1, .int .i64 a.1.2, .int .i64 a.2] := by rw [← hwb]; exact (((B0.out.far n0' _).far n0' _).far n0' _)
  have B1x : Blk wb (w.heap.size + 1) 25 #[.int .i64 b.1.1, .int .i64 b.1.2, .int .i64 b.2] := by rw [← hwb]; exact (((B1.out.far n1' _).far n1' _).far n1' _)
  have B2x : Blk wb (w.heap.size + 2) 25 #[.int .i64 c.1.1, .int .i64 c.1.2, .int .i64 c.2] := by rw [← hwb]; exact (((B2.out.far n2' _).far n2' _).far n2' _)
  have B3x : Blk wb (w.heap.size + 3) 23 #[.int .i64 t.1, .int .i64 t.2] := by rw [← hwb]; exact (((B3.out.far n3' _).far n3' _).far n3' _)
  have B4x : Blk wb (g) 27 #[.int .i64 u.1.1, .int .i64 u.1.2, .int .i64 u.2] := by rw [← hwb]; exact (((B4.out.set_ 0 _).set_ 1 _).set_ 2 _)
  have O12x : Only [] w wb := by rw [← hwb]; exact (((O11.out.setCell (.inr (by simp; omega)) _).setCell (.inr (by simp; omega)) _).setCell (.inr (by simp; omega)) _)
  clear B0 B1 B2 B3 B4 O11 hwb B0c0 B0c1 B0c2 B0l B1c0 B1c1 B1c2 B1l B2c0 B2c1 B2c2 B2l B3c0 B3c1 B3l B4c0 B4c1 B4c2 B4l
  have B0 := Lib.hid B0x; have B1 := Lib.hid B1x; have B2 := Lib.hid B2x; have B3 := Lib.hid B3x; have B4 := Lib.hid B4x; have O12 := Lib.hid O12x
  clear B0x B1x B2x B3x B4x O12x
  clear fr0 fr1 fr2
  obtain ⟨B4c0, B4c1, B4c2, B4l⟩ := B4.out.facts3
  obtain ⟨B0c0, B0c1, B0c2, B0l⟩ := B0.out.facts3
  go_wp2_with (fail)
  refine wp_region_facts 9 [] (fr := ?fre) (tl := ?tle) (fun i v wv => match i with
    | 0 => v = .agg #[.int .i64 u.1.1, .int .i64 u.1.2, .int .i64 u.2]
    | 1 => v = .bool true
    | 2 => v = .bool true
    | 3 => v = .agg #[.int .i64 a.1.1, .int .i64 a.1.2, .int .i64 a.2]
    | 4 => v = .agg #[.int .i64 a.1.1, .int .i64 a.1.2, .int .i64 a.2]
    | 5 => v = .agg #[.int .i64 u.1.1, .int .i64 u.1.2, .int .i64 u.2]
    | 6 => v = .bool true
    | 7 => v = .bool true
    | 8 => v = .bool true
    | _ => True) (by kernel_rfl) (by kernel_rfl) (by kernel_rfl) (by kernel_rfl) (by decide) ?htle ?hfre ?stabe ?stepse ?donee
  case htle => simp only [List.drop_succ_cons, List.drop_zero]; rfl
  case hfre => intro vals; simp only [putAll, dstAt, Act.put, List.getElem?_toArray, List.getElem?_cons_zero, List.getElem?_cons_succ, Option.bind_some, List.setIfInBounds_toArray, List.set_cons_zero, List.set_cons_succ]; rfl
  case stabe =>
    intro i v wa wb h
    try dsimp only
    split <;> first | exact id | fail
  case stepse =>
    refine ⟨?_, ?_, ?_, ?_, ?_, ?_, ?_, ?_, ?_, trivial⟩
    · intro vals wr hR hp K hK
      dsimp only at hK ⊢
      clear hp
      unfold RunsOp
      obtain ⟨tc0, tc1, tc2, -⟩ := (hR.blk (by first | exact B4.out | exact Blk.drew B4.out) (by simp)).facts3
      go_simp
      exact hK.out _ _ ⟨_, rfl, Only.refl _ _, rfl⟩
    · intro vals wr hR hp K hK
      dsimp only at hK ⊢
      obtain ⟨p0, -⟩ := hp
      replace p0 := p0 rfl
      dsimp only at p0
      rw [p0] at hK ⊢
      clear p0
      unfold RunsOp
      go_simp
      refine (strightr hu RU.out _).mono ?_
      rintro e w2 ⟨rfl, o2⟩
      exact hK.out _ _ ⟨_, rfl, o2, rfl⟩
    · intro vals wr hR hp K hK
      dsimp only at hK ⊢
      obtain ⟨p1, -, -⟩ := hp
      replace p1 := p1 rfl
      dsimp only at p1
      obtain p1 := p1
      rw [p1] at hK ⊢
      clear p1
      unfold RunsOp
      go_simp
      exact hK.out _ _ ⟨_, rfl, Only.refl _ _, rfl⟩
    · intro vals wr hR hp K hK
      dsimp only at hK ⊢
      obtain ⟨p2, -⟩ := hp
      replace p2 := p2 rfl
      dsimp only at p2
      rw [p2] at hK ⊢
      clear p2
      unfold RunsOp
      have tb0 := hR.blk (by first | exact B0.out | exact Blk.drew B0.out) (by simp)
      obtain ⟨c00, c01, c02, cl0⟩ := tb0.facts3
      clear tb0
      go_simp
      exact hK.out _ _ ⟨_, rfl, Only.refl _ _, rfl⟩
    · intro vals wr hR hp K hK
      dsimp only at hK ⊢
      obtain ⟨p3, p2, -, -⟩ := hp
      replace p3 := p3 rfl
      replace p2 := p2 rfl
      dsimp only at p3 p2
      rw [p3, p2] at hK ⊢
      clear p3 p2
      unfold RunsOp
      go_simp
      refine (of_any a _).mono ?_
      rintro e w2 ⟨rfl, o2⟩
      exact hK.out _ _ ⟨_, rfl, o2, rfl⟩
    · intro vals wr hR hp K hK
      dsimp only at hK ⊢
      obtain ⟨p2, -⟩ := hp
      replace p2 := p2 rfl
      dsimp only at p2
      rw [p2] at hK ⊢
      clear p2
      unfold RunsOp
      obtain ⟨tc0, tc1, tc2, -⟩ := (hR.blk (by first | exact B4.out | exact Blk.drew B4.out) (by simp)).facts3
      go_simp
      exact hK.out _ _ ⟨_, rfl, Only.refl _ _, rfl⟩
    · intro vals wr hR hp K hK
      dsimp only at hK ⊢
      obtain ⟨p4, p5, -, p2, -⟩ := hp
      replace p4 := p4 rfl
      replace p5 := p5 rfl
      replace p2 := p2 rfl
      dsimp only at p4 p5 p2
      obtain p4 := p4
      rw [p4, p5, p2] at hK ⊢
      clear p4 p5 p2
      unfold RunsOp
      go_simp
      refine (lessr a u ha hu LU.out (y := true) (by decide) _).mono ?_
      rintro e w2 ⟨rfl, o2⟩
      exact hK.out _ _ ⟨_, rfl, o2, rfl⟩
    · intro vals wr hR hp K hK
      dsimp only at hK ⊢
      obtain ⟨p2, p6, -⟩ := hp
      replace p2 := p2 rfl
      replace p6 := p6 rfl
      dsimp only at p2 p6
      obtain p6 := p6
      rw [p2, p6] at hK ⊢
      clear p2 p6
      unfold RunsOp
      go_simp
      exact hK.out _ _ ⟨_, rfl, Only.refl _ _, rfl⟩
    · intro vals wr hR hp K hK
      dsimp only at hK ⊢
      obtain ⟨p7, -, -, -, -, -, -, -, -, -, -⟩ := hp
      replace p7 := p7 rfl
      dsimp only at p7
      rw [p7] at hK ⊢
      clear p7
      unfold RunsOp
      go_simp
      exact hK.out _ _ ⟨_, rfl, Only.refl _ _, rfl⟩
  intro vals w13 hR hF
  have f8 : vals 8 = .bool true := hF 8 (by decide)
  rw [f8]
  clear hF f8
  refine wpList_nil ?_
  have B0x := hR.blk (t := 25) (cs := #[.int .i64 a.1.1, .int .i64 a.1.2, .int .i64 a.2]) (g := w.heap.size) (by first | exact B0.out | exact Blk.drewN B0.out _ | exact Blk.drew B0.out) (by simp)
  have B1x := hR.blk (t := 25) (cs := #[.int .i64 b.1.1, .int .i64 b.1.2, .int .i64 b.2]) (g := w.heap.size + 1) (by first | exact B1.out | exact Blk.drewN B1.out _ | exact Blk.drew B1.out) (by simp)
  have B2x := hR.blk (t := 25) (cs := #[.int .i64 c.1.1, .int .i64 c.1.2, .int .i64 c.2]) (g := w.heap.size + 2) (by first | exact B2.out | exact Blk.drewN B2.out _ | exact Blk.drew B2.out) (by simp)
  have B3x := hR.blk (t := 23) (cs := #[.int .i64 t.1, .int .i64 t.2]) (g := w.heap.size + 3) (by first | exact B3.out | exact Blk.drewN B3.out _ | exact Blk.drew B3.out) (by simp)
  have B4x := hR.blk (t := 27) (cs := #[.int .i64 u.1.1, .int .i64 u.1.2, .int .i64 u.2]) (g := g) (by first | exact B4.out | exact Blk.drewN B4.out _ | exact Blk.drew B4.out) (by simp)
  have O13x : Only [] w w13 := (by first | exact Only.trans O12.out hR (by simp) | exact Only.trans (Only.drewN O12.out _) hR (by simp) | exact Only.trans (Only.drew O12.out) hR (by simp))
  obtain ⟨B0c0, B0c1, B0c2, B0l⟩ := B0x.facts3
  obtain ⟨B1c0, B1c1, B1c2, B1l⟩ := B1x.facts3
  obtain ⟨B2c0, B2c1, B2c2, B2l⟩ := B2x.facts3
  obtain ⟨B3c0, B3c1, B3l⟩ := B3x.facts2
  obtain ⟨B4c0, B4c1, B4c2, B4l⟩ := B4x.facts3
  clear B0 B1 B2 B3 B4 O12 hR
  have B0 := Lib.hid B0x; have B1 := Lib.hid B1x; have B2 := Lib.hid B2x; have B3 := Lib.hid B3x; have B4 := Lib.hid B4x; have O13 := Lib.hid O13x
  clear B0x B1x B2x B3x B4x O13x
  go_wp2_with (fail)
  go_ret
  exact ⟨by first | rfl | simp, by first | exact O13.out | exact Only.drewN O13.out _⟩

set_option maxHeartbeats 4000000 in
theorem storders_111 (a b c : St) (t : Tm)  (ha : a.ok) (hb : b.ok) (hc : c.ok) (to : t.ok) {x y : Int} {z : Bool} (h1 : stC a b = x) (h2 : stC b a = y) (hx : y = -x) (hr : x = -1 ∨ x = 0 ∨ x = 1) (z1 : decide (x = -1) = z) (z2 : decide (x < 0) = z) (ra : stR a = true) (rb : stR b = true) (rc : stR c = true) {p : Bool} (p1 : decide (x = 0) = p) (p2 : decide (a = b) = p) (q1 : decide (x ≤ 0) = true) {s : Int} (h3 : stC b c = s) (r1 : decide (s ≤ 0) = true) {k : Int} (h4 : stC a c = k) (k3 : decide (0 < k) = false) {e : Int} (h5 : afterT a t = (((0, 0), 0), e)) (e0 : e ≠ 0)  {w : World} (hw : Tab10 w) :
    Calls Tryd.prog 3 #[.agg #[.int .i64 a.1.1, .int .i64 a.1.2, .int .i64 a.2], .agg #[.int .i64 b.1.1, .int .i64 b.1.2, .int .i64 b.2], .agg #[.int .i64 c.1.1, .int .i64 c.1.2, .int .i64 c.2], .agg #[.int .i64 t.1, .int .i64 t.2]] w fun e w' => e = .returned (.bool true) ∧ Only [] w w' := by
  have H1 := Lib.hid h1
  have H2 := Lib.hid h2
  subst hx
  have k1 : -(-x) = x := by omega
  have k2 : IntKind.i64.wrap x = x := by rcases hr with rfl | rfl | rfl <;> rfl
  clear h1 h2
  have Ra := Lib.hid ra
  have Rb := Lib.hid rb
  have Rc := Lib.hid rc
  have p3 : (x == 0) = p := by rw [← p1]; rfl
  have p4 := eq_st25 a b p2
  clear ra rb rc p2
  have H3 := Lib.hid h3
  clear h3
  have H4 := Lib.hid h4
  clear h4
  have H5 := Lib.hid h5
  have e1 : (e == 0) = false := by simpa using e0
  clear h5
  have HW := Lib.hid hw
  clear hw
  have O0 := Lib.hid (Only.refl [] w)
  go_enter Tryd.func3, Tryd.ntmps3
  have B0 := Lib.hid ((Blk.alloc (Blk.alloc (Blk.alloc (by have h := Blk.new w 25 #[.int .i64 a.1.1, .int .i64 a.1.2, .int .i64 a.2]; simpa using h : Blk (w.alloc (.cells #[.int .i64 a.1.1, .int .i64 a.1.2, .int .i64 a.2] 25)) (w.heap.size) 25 #[.int .i64 a.1.1, .int .i64 a.1.2, .int .i64 a.2]) _) _) _) : Blk ((((w.alloc (.cells #[.int .i64 a.1.1, .int .i64 a.1.2, .int .i64 a.2] 25)).alloc (.cells #[.int .i64 b.1.1, .int .i64 b.1.2, .int .i64 b.2] 25)).alloc (.cells #[.int .i64 c.1.1, .int .i64 c.1.2, .int .i64 c.2] 25)).alloc (.cells #[.int .i64 t.1, .int .i64 t.2] 23)) (w.heap.size) 25 #[.int .i64 a.1.1, .int .i64 a.1.2, .int .i64 a.2])
  have B1 := Lib.hid ((Blk.alloc (Blk.alloc (by have h := Blk.new (w.alloc (.cells #[.int .i64 a.1.1, .int .i64 a.1.2, .int .i64 a.2] 25)) 25 #[.int .i64 b.1.1, .int .i64 b.1.2, .int .i64 b.2]; simpa using h : Blk ((w.alloc (.cells #[.int .i64 a.1.1, .int .i64 a.1.2, .int .i64 a.2] 25)).alloc (.cells #[.int .i64 b.1.1, .int .i64 b.1.2, .int .i64 b.2] 25)) (w.heap.size + 1) 25 #[.int .i64 b.1.1, .int .i64 b.1.2, .int .i64 b.2]) _) _) : Blk ((((w.alloc (.cells #[.int .i64 a.1.1, .int .i64 a.1.2, .int .i64 a.2] 25)).alloc (.cells #[.int .i64 b.1.1, .int .i64 b.1.2, .int .i64 b.2] 25)).alloc (.cells #[.int .i64 c.1.1, .int .i64 c.1.2, .int .i64 c.2] 25)).alloc (.cells #[.int .i64 t.1, .int .i64 t.2] 23)) (w.heap.size + 1) 25 #[.int .i64 b.1.1, .int .i64 b.1.2, .int .i64 b.2])
  have B2 := Lib.hid ((Blk.alloc (by have h := Blk.new ((w.alloc (.cells #[.int .i64 a.1.1, .int .i64 a.1.2, .int .i64 a.2] 25)).alloc (.cells #[.int .i64 b.1.1, .int .i64 b.1.2, .int .i64 b.2] 25)) 25 #[.int .i64 c.1.1, .int .i64 c.1.2, .int .i64 c.2]; simpa using h : Blk (((w.alloc (.cells #[.int .i64 a.1.1, .int .i64 a.1.2, .int .i64 a.2] 25)).alloc (.cells #[.int .i64 b.1.1, .int .i64 b.1.2, .int .i64 b.2] 25)).alloc (.cells #[.int .i64 c.1.1, .int .i64 c.1.2, .int .i64 c.2] 25)) (w.heap.size + 2) 25 #[.int .i64 c.1.1, .int .i64 c.1.2, .int .i64 c.2]) _) : Blk ((((w.alloc (.cells #[.int .i64 a.1.1, .int .i64 a.1.2, .int .i64 a.2] 25)).alloc (.cells #[.int .i64 b.1.1, .int .i64 b.1.2, .int .i64 b.2] 25)).alloc (.cells #[.int .i64 c.1.1, .int .i64 c.1.2, .int .i64 c.2] 25)).alloc (.cells #[.int .i64 t.1, .int .i64 t.2] 23)) (w.heap.size + 2) 25 #[.int .i64 c.1.1, .int .i64 c.1.2, .int .i64 c.2])
  have B3 := Lib.hid ((by have h := Blk.new (((w.alloc (.cells #[.int .i64 a.1.1, .int .i64 a.1.2, .int .i64 a.2] 25)).alloc (.cells #[.int .i64 b.1.1, .int .i64 b.1.2, .int .i64 b.2] 25)).alloc (.cells #[.int .i64 c.1.1, .int .i64 c.1.2, .int .i64 c.2] 25)) 23 #[.int .i64 t.1, .int .i64 t.2]; simpa using h : Blk ((((w.alloc (.cells #[.int .i64 a.1.1, .int .i64 a.1.2, .int .i64 a.2] 25)).alloc (.cells #[.int .i64 b.1.1, .int .i64 b.1.2, .int .i64 b.2] 25)).alloc (.cells #[.int .i64 c.1.1, .int .i64 c.1.2, .int .i64 c.2] 25)).alloc (.cells #[.int .i64 t.1, .int .i64 t.2] 23)) (w.heap.size + 3) 23 #[.int .i64 t.1, .int .i64 t.2]) : Blk ((((w.alloc (.cells #[.int .i64 a.1.1, .int .i64 a.1.2, .int .i64 a.2] 25)).alloc (.cells #[.int .i64 b.1.1, .int .i64 b.1.2, .int .i64 b.2] 25)).alloc (.cells #[.int .i64 c.1.1, .int .i64 c.1.2, .int .i64 c.2] 25)).alloc (.cells #[.int .i64 t.1, .int .i64 t.2] 23)) (w.heap.size + 3) 23 #[.int .i64 t.1, .int .i64 t.2])
  have O1 := Lib.hid (((((O0.out.alloc _).alloc _).alloc _).alloc _) : Only [] w ((((w.alloc (.cells #[.int .i64 a.1.1, .int .i64 a.1.2, .int .i64 a.2] 25)).alloc (.cells #[.int .i64 b.1.1, .int .i64 b.1.2, .int .i64 b.2] 25)).alloc (.cells #[.int .i64 c.1.1, .int .i64 c.1.2, .int .i64 c.2] 25)).alloc (.cells #[.int .i64 t.1, .int .i64 t.2] 23)))
  clear O0
  go_wp2_with (fail)
  refine wp_region_facts 6 [] (fr := ?fr) (tl := ?tl) (fun i v wv => match i with
    | 0 => v = .agg #[.int .i64 a.1.1, .int .i64 a.1.2, .int .i64 a.2]
    | 1 => v = .agg #[.int .i64 a.1.1, .int .i64 a.1.2, .int .i64 a.2]
    | 2 => v = .agg #[.int .i64 b.1.1, .int .i64 b.1.2, .int .i64 b.2]
    | 3 => v = .agg #[.int .i64 b.1.1, .int .i64 b.1.2, .int .i64 b.2]
    | 4 => v = .int .i64 x
    | 5 => v = .int .i64 x
    | _ => True) (by kernel_rfl) (by kernel_rfl) (by kernel_rfl) (by kernel_rfl) (by decide) ?htl ?hfr ?stab ?steps ?done
  case htl => simp only [List.drop_succ_cons, List.drop_zero]; rfl
  case hfr => intro vals; simp only [putAll, dstAt, Act.put, List.getElem?_toArray, List.getElem?_cons_zero, List.getElem?_cons_succ, Option.bind_some, List.setIfInBounds_toArray, List.set_cons_zero, List.set_cons_succ]; rfl
  case stab =>
    intro i v wa wb h
    try dsimp only
    split <;> first | exact id | fail
  case steps =>
    refine ⟨?_, ?_, ?_, ?_, ?_, ?_, trivial⟩
    · intro vals wr hR hp K hK
      dsimp only at hK ⊢
      clear hp
      unfold RunsOp
      have tb0 := hR.blk (by first | exact B0.out | exact Blk.drew B0.out) (by simp)
      obtain ⟨c00, c01, c02, cl0⟩ := tb0.facts3
      clear tb0
      go_simp
      exact hK.out _ _ ⟨_, rfl, Only.refl _ _, rfl⟩
    · intro vals wr hR hp K hK
      dsimp only at hK ⊢
      obtain ⟨p0, -⟩ := hp
      replace p0 := p0 rfl
      dsimp only at p0
      rw [p0] at hK ⊢
      clear p0
      unfold RunsOp
      go_simp
      refine (of_any a _).mono ?_
      rintro e w2 ⟨rfl, o2⟩
      exact hK.out _ _ ⟨_, rfl, o2, rfl⟩
    · intro vals wr hR hp K hK
      dsimp only at hK ⊢
      clear hp
      unfold RunsOp
      have tb1 := hR.blk (by first | exact B1.out | exact Blk.drew B1.out) (by simp)
      obtain ⟨c10, c11, c12, cl1⟩ := tb1.facts3
      clear tb1
      go_simp
      exact hK.out _ _ ⟨_, rfl, Only.refl _ _, rfl⟩
    · intro vals wr hR hp K hK
      dsimp only at hK ⊢
      obtain ⟨p2, -, -⟩ := hp
      replace p2 := p2 rfl
      dsimp only at p2
      rw [p2] at hK ⊢
      clear p2
      unfold RunsOp
      go_simp
      refine (of_any b _).mono ?_
      rintro e w2 ⟨rfl, o2⟩
      exact hK.out _ _ ⟨_, rfl, o2, rfl⟩
    · intro vals wr hR hp K hK
      dsimp only at hK ⊢
      obtain ⟨p1, p3, -, -⟩ := hp
      replace p1 := p1 rfl
      replace p3 := p3 rfl
      dsimp only at p1 p3
      obtain p1 := p1
      obtain p3 := p3
      rw [p1, p3] at hK ⊢
      clear p1 p3
      unfold RunsOp
      go_simp
      refine (stcmpr a b ha hb H1.out _).mono ?_
      rintro e w2 ⟨rfl, o2⟩
      exact hK.out _ _ ⟨_, rfl, o2, rfl⟩
    · intro vals wr hR hp K hK
      dsimp only at hK ⊢
      obtain ⟨p4, -, -, -, -, -, -, -⟩ := hp
      replace p4 := p4 rfl
      dsimp only at p4
      obtain p4 := p4
      rw [p4] at hK ⊢
      clear p4
      unfold RunsOp
      go_simp
      exact hK.out _ _ ⟨_, rfl, Only.refl _ _, rfl⟩
  intro vals w2 hR hF
  have f5 : vals 5 = .int .i64 x := hF 5 (by decide)
  rw [f5]
  clear hF f5
  refine wpList_nil ?_
  have B0x := hR.blk (t := 25) (cs := #[.int .i64 a.1.1, .int .i64 a.1.2, .int .i64 a.2]) (g := w.heap.size) (by first | exact B0.out | exact Blk.drewN B0.out _ | exact Blk.drew B0.out) (by simp)
  have B1x := hR.blk (t := 25) (cs := #[.int .i64 b.1.1, .int .i64 b.1.2, .int .i64 b.2]) (g := w.heap.size + 1) (by first | exact B1.out | exact Blk.drewN B1.out _ | exact Blk.drew B1.out) (by simp)
  have B2x := hR.blk (t := 25) (cs := #[.int .i64 c.1.1, .int .i64 c.1.2, .int .i64 c.2]) (g := w.heap.size + 2) (by first | exact B2.out | exact Blk.drewN B2.out _ | exact Blk.drew B2.out) (by simp)
  have B3x := hR.blk (t := 23) (cs := #[.int .i64 t.1, .int .i64 t.2]) (g := w.heap.size + 3) (by first | exact B3.out | exact Blk.drewN B3.out _ | exact Blk.drew B3.out) (by simp)
  have O2x : Only [] w w2 := (by first | exact Only.trans O1.out hR (by simp) | exact Only.trans (Only.drewN O1.out _) hR (by simp) | exact Only.trans (Only.drew O1.out) hR (by simp))
  obtain ⟨B0c0, B0c1, B0c2, B0l⟩ := B0x.facts3
  obtain ⟨B1c0, B1c1, B1c2, B1l⟩ := B1x.facts3
  obtain ⟨B2c0, B2c1, B2c2, B2l⟩ := B2x.facts3
  obtain ⟨B3c0, B3c1, B3l⟩ := B3x.facts2
  clear B0 B1 B2 B3 O1 hR
  have B0 := Lib.hid B0x; have B1 := Lib.hid B1x; have B2 := Lib.hid B2x; have B3 := Lib.hid B3x; have O2 := Lib.hid O2x
  clear B0x B1x B2x B3x O2x
  go_wp2_with (fail)
  refine wp_region_facts 22 [] (fr := ?frb) (tl := ?tlb) (fun i v wv => match i with
    | 0 => v = .bool true
    | 1 => v = .bool false
    | 2 => v = .bool false
    | 3 => v = .int .i64 x
    | 4 => v = .agg #[.int .i64 b.1.1, .int .i64 b.1.2, .int .i64 b.2]
    | 5 => v = .agg #[.int .i64 b.1.1, .int .i64 b.1.2, .int .i64 b.2]
    | 6 => v = .agg #[.int .i64 a.1.1, .int .i64 a.1.2, .int .i64 a.2]
    | 7 => v = .agg #[.int .i64 a.1.1, .int .i64 a.1.2, .int .i64 a.2]
    | 8 => v = .int .i64 (-x)
    | 9 => v = .int .i64 x
    | 10 => v = .bool false
    | 11 => v = .bool false
    | 12 => v = .bool false
    | 13 => v = .agg #[.int .i64 a.1.1, .int .i64 a.1.2, .int .i64 a.2]
    | 14 => v = .agg #[.int .i64 a.1.1, .int .i64 a.1.2, .int .i64 a.2]
    | 15 => v = .agg #[.int .i64 b.1.1, .int .i64 b.1.2, .int .i64 b.2]
    | 16 => v = .agg #[.int .i64 b.1.1, .int .i64 b.1.2, .int .i64 b.2]
    | 17 => v = .bool z
    | 18 => v = .int .i64 x
    | 19 => v = .bool z
    | 20 => v = .bool false
    | 21 => v = .bool false
    | _ => True) (by kernel_rfl) (by kernel_rfl) (by kernel_rfl) (by kernel_rfl) (by decide) ?htlb ?hfrb ?stabb ?stepsb ?doneb
  case htlb => simp only [List.drop_succ_cons, List.drop_zero]; rfl
  case hfrb => intro vals; simp only [putAll, dstAt, Act.put, List.getElem?_toArray, List.getElem?_cons_zero, List.getElem?_cons_succ, Option.bind_some, List.setIfInBounds_toArray, List.set_cons_zero, List.set_cons_succ]; rfl
  case stabb =>
    intro i v wa wb h
    try dsimp only
    split <;> first | exact id | fail
  case stepsb =>
    refine ⟨?_, ?_, ?_, ?_, ?_, ?_, ?_, ?_, ?_, ?_, ?_, ?_, ?_, ?_, ?_, ?_, ?_, ?_, ?_, ?_, ?_, ?_, trivial⟩
    · intro vals wr hR hp K hK
      dsimp only at hK ⊢
      clear hp
      unfold RunsOp
      have tt := HW.out.only (Only.trans (by first | exact O2.out.drew | exact (O2.out.drewN _).drew) hR (by simp))
      go_simp
      refine (awake_any tt).mono ?_
      rintro e w2 ⟨rfl, o2⟩
      exact hK.out _ _ ⟨_, rfl, o2, rfl⟩
    · intro vals wr hR hp K hK
      dsimp only at hK ⊢
      obtain ⟨p0, -⟩ := hp
      replace p0 := p0 rfl
      dsimp only at p0
      obtain p0 := p0
      rw [p0] at hK ⊢
      clear p0
      unfold RunsOp
      go_simp
      exact hK.out _ _ ⟨_, rfl, Only.refl _ _, rfl⟩
    · intro vals wr hR hp K hK
      dsimp only at hK ⊢
      obtain ⟨p1, -, -⟩ := hp
      replace p1 := p1 rfl
      dsimp only at p1
      rw [p1] at hK ⊢
      clear p1
      unfold RunsOp
      go_simp
      exact hK.out _ _ ⟨_, rfl, Only.refl _ _, rfl⟩
    · intro vals wr hR hp K hK
      dsimp only at hK ⊢
      obtain ⟨p2, -⟩ := hp
      replace p2 := p2 rfl
      dsimp only at p2
      rw [p2] at hK ⊢
      clear p2
      unfold RunsOp
      go_simp
      exact hK.out _ _ ⟨_, rfl, Only.refl _ _, rfl⟩
    · intro vals wr hR hp K hK
      dsimp only at hK ⊢
      obtain ⟨p2, -⟩ := hp
      replace p2 := p2 rfl
      dsimp only at p2
      rw [p2] at hK ⊢
      clear p2
      unfold RunsOp
      have tb1 := hR.blk (by first | exact B1.out | exact Blk.drew B1.out) (by simp)
      obtain ⟨c10, c11, c12, cl1⟩ := tb1.facts3
      clear tb1
      go_simp
      exact hK.out _ _ ⟨_, rfl, Only.refl _ _, rfl⟩
    · intro vals wr hR hp K hK
      dsimp only at hK ⊢
      obtain ⟨p4, p2, -, -⟩ := hp
      replace p4 := p4 rfl
      replace p2 := p2 rfl
      dsimp only at p4 p2
      rw [p4, p2] at hK ⊢
      clear p4 p2
      unfold RunsOp
      go_simp
      refine (of_any b _).mono ?_
      rintro e w2 ⟨rfl, o2⟩
      exact hK.out _ _ ⟨_, rfl, o2, rfl⟩
    · intro vals wr hR hp K hK
      dsimp only at hK ⊢
      obtain ⟨p2, -⟩ := hp
      replace p2 := p2 rfl
      dsimp only at p2
      rw [p2] at hK ⊢
      clear p2
      unfold RunsOp
      have tb0 := hR.blk (by first | exact B0.out | exact Blk.drew B0.out) (by simp)
      obtain ⟨c00, c01, c02, cl0⟩ := tb0.facts3
      clear tb0
      go_simp
      exact hK.out _ _ ⟨_, rfl, Only.refl _ _, rfl⟩
    · intro vals wr hR hp K hK
      dsimp only at hK ⊢
      obtain ⟨p6, -, p2, -⟩ := hp
      replace p6 := p6 rfl
      replace p2 := p2 rfl
      dsimp only at p6 p2
      rw [p6, p2] at hK ⊢
      clear p6 p2
      unfold RunsOp
      go_simp
      refine (of_any a _).mono ?_
      rintro e w2 ⟨rfl, o2⟩
      exact hK.out _ _ ⟨_, rfl, o2, rfl⟩
    · intro vals wr hR hp K hK
      dsimp only at hK ⊢
      obtain ⟨p5, p7, -, p2, -⟩ := hp
      replace p5 := p5 rfl
      replace p7 := p7 rfl
      replace p2 := p2 rfl
      dsimp only at p5 p7 p2
      obtain p5 := p5
      obtain p7 := p7
      rw [p5, p7, p2] at hK ⊢
      clear p5 p7 p2
      unfold RunsOp
      go_simp
      refine (stcmpr b a hb ha H2.out _).mono ?_
      rintro e w2 ⟨rfl, o2⟩
      exact hK.out _ _ ⟨_, rfl, o2, rfl⟩
    · intro vals wr hR hp K hK
      dsimp only at hK ⊢
      obtain ⟨p8, p2, -⟩ := hp
      replace p8 := p8 rfl
      replace p2 := p2 rfl
      dsimp only at p8 p2
      obtain p8 := p8
      rw [p8, p2] at hK ⊢
      clear p8 p2
      unfold RunsOp
      go_simp
      exact hK.out _ _ ⟨_, rfl, Only.refl _ _, rfl⟩
    · intro vals wr hR hp K hK
      dsimp only at hK ⊢
      obtain ⟨p3, p9, p2, -⟩ := hp
      replace p3 := p3 rfl
      replace p9 := p9 rfl
      replace p2 := p2 rfl
      dsimp only at p3 p9 p2
      rw [p3, p9, p2] at hK ⊢
      clear p3 p9 p2
      unfold RunsOp
      go_simp
      exact hK.out _ _ ⟨_, rfl, Only.refl _ _, rfl⟩
    · intro vals wr hR hp K hK
      dsimp only at hK ⊢
      obtain ⟨p2, p10, -⟩ := hp
      replace p2 := p2 rfl
      replace p10 := p10 rfl
      dsimp only at p2 p10
      rw [p2, p10] at hK ⊢
      clear p2 p10
      unfold RunsOp
      go_simp
      exact hK.out _ _ ⟨_, rfl, Only.refl _ _, rfl⟩
    · intro vals wr hR hp K hK
      dsimp only at hK ⊢
      obtain ⟨p11, -, -⟩ := hp
      replace p11 := p11 rfl
      dsimp only at p11
      rw [p11] at hK ⊢
      clear p11
      unfold RunsOp
      go_simp
      exact hK.out _ _ ⟨_, rfl, Only.refl _ _, rfl⟩
    · intro vals wr hR hp K hK
      dsimp only at hK ⊢
      obtain ⟨p12, -⟩ := hp
      replace p12 := p12 rfl
      dsimp only at p12
      rw [p12] at hK ⊢
      clear p12
      unfold RunsOp
      have tb0 := hR.blk (by first | exact B0.out | exact Blk.drew B0.out) (by simp)
      obtain ⟨c00, c01, c02, cl0⟩ := tb0.facts3
      clear tb0
      go_simp
      exact hK.out _ _ ⟨_, rfl, Only.refl _ _, rfl⟩
    · intro vals wr hR hp K hK
      dsimp only at hK ⊢
      obtain ⟨p13, p12, -, -⟩ := hp
      replace p13 := p13 rfl
      replace p12 := p12 rfl
      dsimp only at p13 p12
      rw [p13, p12] at hK ⊢
      clear p13 p12
      unfold RunsOp
      go_simp
      refine (of_any a _).mono ?_
      rintro e w2 ⟨rfl, o2⟩
      exact hK.out _ _ ⟨_, rfl, o2, rfl⟩
    · intro vals wr hR hp K hK
      dsimp only at hK ⊢
      obtain ⟨p12, -⟩ := hp
      replace p12 := p12 rfl
      dsimp only at p12
      rw [p12] at hK ⊢
      clear p12
      unfold RunsOp
      have tb1 := hR.blk (by first | exact B1.out | exact Blk.drew B1.out) (by simp)
      obtain ⟨c10, c11, c12, cl1⟩ := tb1.facts3
      clear tb1
      go_simp
      exact hK.out _ _ ⟨_, rfl, Only.refl _ _, rfl⟩
    · intro vals wr hR hp K hK
      dsimp only at hK ⊢
      obtain ⟨p15, -, p12, -⟩ := hp
      replace p15 := p15 rfl
      replace p12 := p12 rfl
      dsimp only at p15 p12
      rw [p15, p12] at hK ⊢
      clear p15 p12
      unfold RunsOp
      go_simp
      refine (of_any b _).mono ?_
      rintro e w2 ⟨rfl, o2⟩
      exact hK.out _ _ ⟨_, rfl, o2, rfl⟩
    · intro vals wr hR hp K hK
      dsimp only at hK ⊢
      obtain ⟨p14, p16, -, p12, -⟩ := hp
      replace p14 := p14 rfl
      replace p16 := p16 rfl
      replace p12 := p12 rfl
      dsimp only at p14 p16 p12
      obtain p14 := p14
      obtain p16 := p16
      rw [p14, p16, p12] at hK ⊢
      clear p14 p16 p12
      unfold RunsOp
      go_simp
      refine (lessr a b ha hb H1.out z1 _).mono ?_
      rintro e w2 ⟨rfl, o2⟩
      exact hK.out _ _ ⟨_, rfl, o2, rfl⟩
    · intro vals wr hR hp K hK
      dsimp only at hK ⊢
      obtain ⟨p12, -⟩ := hp
      replace p12 := p12 rfl
      dsimp only at p12
      rw [p12] at hK ⊢
      clear p12
      unfold RunsOp
      go_simp
      exact hK.out _ _ ⟨_, rfl, Only.refl _ _, rfl⟩
    · intro vals wr hR hp K hK
      dsimp only at hK ⊢
      obtain ⟨p18, p12, -⟩ := hp
      replace p18 := p18 rfl
      replace p12 := p12 rfl
      dsimp only at p18 p12
      rw [p18, p12] at hK ⊢
      clear p18 p12
      unfold RunsOp
      go_simp
      exact hK.out _ _ ⟨_, rfl, Only.refl _ _, rfl⟩
    · intro vals wr hR hp K hK
      dsimp only at hK ⊢
      obtain ⟨p17, p19, p12, -⟩ := hp
      replace p17 := p17 rfl
      replace p19 := p19 rfl
      replace p12 := p12 rfl
      dsimp only at p17 p19 p12
      obtain p17 := p17
      rw [p17, p19, p12] at hK ⊢
      clear p17 p19 p12
      unfold RunsOp
      go_simp
      exact hK.out _ _ ⟨_, rfl, Only.refl _ _, rfl⟩
    · intro vals wr hR hp K hK
      dsimp only at hK ⊢
      obtain ⟨p12, p20, -⟩ := hp
      replace p12 := p12 rfl
      replace p20 := p20 rfl
      dsimp only at p12 p20
      rw [p12, p20] at hK ⊢
      clear p12 p20
      unfold RunsOp
      go_simp
      exact hK.out _ _ ⟨_, rfl, Only.refl _ _, rfl⟩
  intro vals w3 hR hF
  have f21 : vals 21 = .bool false := hF 21 (by decide)
  rw [f21]
  clear hF f21
  refine wpList_nil ?_
  have B0x := hR.blk (t := 25) (cs := #[.int .i64 a.1.1, .int .i64 a.1.2, .int .i64 a.2]) (g := w.heap.size) (by first | exact B0.out | exact Blk.drewN B0.out _ | exact Blk.drew B0.out) (by simp)
  have B1x := hR.blk (t := 25) (cs := #[.int .i64 b.1.1, .int .i64 b.1.2, .int .i64 b.2]) (g := w.heap.size + 1) (by first | exact B1.out | exact Blk.drewN B1.out _ | exact Blk.drew B1.out) (by simp)
  have B2x := hR.blk (t := 25) (cs := #[.int .i64 c.1.1, .int .i64 c.1.2, .int .i64 c.2]) (g := w.heap.size + 2) (by first | exact B2.out | exact Blk.drewN B2.out _ | exact Blk.drew B2.out) (by simp)
  have B3x := hR.blk (t := 23) (cs := #[.int .i64 t.1, .int .i64 t.2]) (g := w.heap.size + 3) (by first | exact B3.out | exact Blk.drewN B3.out _ | exact Blk.drew B3.out) (by simp)
  have O3x : Only [] w w3 := (by first | exact Only.trans O2.out hR (by simp) | exact Only.trans (Only.drewN O2.out _) hR (by simp) | exact Only.trans (Only.drew O2.out) hR (by simp))
  obtain ⟨B0c0, B0c1, B0c2, B0l⟩ := B0x.facts3
  obtain ⟨B1c0, B1c1, B1c2, B1l⟩ := B1x.facts3
  obtain ⟨B2c0, B2c1, B2c2, B2l⟩ := B2x.facts3
  obtain ⟨B3c0, B3c1, B3l⟩ := B3x.facts2
  clear B0 B1 B2 B3 O2 hR
  have B0 := Lib.hid B0x; have B1 := Lib.hid B1x; have B2 := Lib.hid B2x; have B3 := Lib.hid B3x; have O3 := Lib.hid O3x
  clear B0x B1x B2x B3x O3x
  go_wp2_with (fail)
  go_wp2_with (fail)
  refine (of_any a _).mono ?_
  rintro e w4 ⟨rfl, o⟩
  have B0x := o.blk (t := 25) (cs := #[.int .i64 a.1.1, .int .i64 a.1.2, .int .i64 a.2]) (g := w.heap.size) (by first | exact B0.out | exact Blk.drewN B0.out _ | exact Blk.drew B0.out) (by simp)
  have B1x := o.blk (t := 25) (cs := #[.int .i64 b.1.1, .int .i64 b.1.2, .int .i64 b.2]) (g := w.heap.size + 1) (by first | exact B1.out | exact Blk.drewN B1.out _ | exact Blk.drew B1.out) (by simp)
  have B2x := o.blk (t := 25) (cs := #[.int .i64 c.1.1, .int .i64 c.1.2, .int .i64 c.2]) (g := w.heap.size + 2) (by first | exact B2.out | exact Blk.drewN B2.out _ | exact Blk.drew B2.out) (by simp)
  have B3x := o.blk (t := 23) (cs := #[.int .i64 t.1, .int .i64 t.2]) (g := w.heap.size + 3) (by first | exact B3.out | exact Blk.drewN B3.out _ | exact Blk.drew B3.out) (by simp)
  have O4x : Only [] w w4 := (by first | exact Only.trans O3.out o (by simp) | exact Only.trans (Only.drewN O3.out _) o (by simp) | exact Only.trans (Only.drew O3.out) o (by simp))
  obtain ⟨B0c0, B0c1, B0c2, B0l⟩ := B0x.facts3
  obtain ⟨B1c0, B1c1, B1c2, B1l⟩ := B1x.facts3
  obtain ⟨B2c0, B2c1, B2c2, B2l⟩ := B2x.facts3
  obtain ⟨B3c0, B3c1, B3l⟩ := B3x.facts2
  clear B0 B1 B2 B3 O3 o
  have B0 := Lib.hid B0x; have B1 := Lib.hid B1x; have B2 := Lib.hid B2x; have B3 := Lib.hid B3x; have O4 := Lib.hid O4x
  clear B0x B1x B2x B3x O4x
  go_wp2_with (fail)
  refine (strightr ha Ra.out _).mono ?_
  rintro e w5 ⟨rfl, o⟩
  have B0x := o.blk (t := 25) (cs := #[.int .i64 a.1.1, .int .i64 a.1.2, .int .i64 a.2]) (g := w.heap.size) (by first | exact B0.out | exact Blk.drewN B0.out _ | exact Blk.drew B0.out) (by simp)
  have B1x := o.blk (t := 25) (cs := #[.int .i64 b.1.1, .int .i64 b.1.2, .int .i64 b.2]) (g := w.heap.size + 1) (by first | exact B1.out | exact Blk.drewN B1.out _ | exact Blk.drew B1.out) (by simp)
  have B2x := o.blk (t := 25) (cs := #[.int .i64 c.1.1, .int .i64 c.1.2, .int .i64 c.2]) (g := w.heap.size + 2) (by first | exact B2.out | exact Blk.drewN B2.out _ | exact Blk.drew B2.out) (by simp)
  have B3x := o.blk (t := 23) (cs := #[.int .i64 t.1, .int .i64 t.2]) (g := w.heap.size + 3) (by first | exact B3.out | exact Blk.drewN B3.out _ | exact Blk.drew B3.out) (by simp)
  have O5x : Only [] w w5 := (by first | exact Only.trans O4.out o (by simp) | exact Only.trans (Only.drewN O4.out _) o (by simp) | exact Only.trans (Only.drew O4.out) o (by simp))
  obtain ⟨B0c0, B0c1, B0c2, B0l⟩ := B0x.facts3
  obtain ⟨B1c0, B1c1, B1c2, B1l⟩ := B1x.facts3
  obtain ⟨B2c0, B2c1, B2c2, B2l⟩ := B2x.facts3
  obtain ⟨B3c0, B3c1, B3l⟩ := B3x.facts2
  clear B0 B1 B2 B3 O4 o
  have B0 := Lib.hid B0x; have B1 := Lib.hid B1x; have B2 := Lib.hid B2x; have B3 := Lib.hid B3x; have O5 := Lib.hid O5x
  clear B0x B1x B2x B3x O5x
  go_wp2_with (fail)
  refine (of_any b _).mono ?_
  rintro e w6 ⟨rfl, o⟩
  have B0x := o.blk (t := 25) (cs := #[.int .i64 a.1.1, .int .i64 a.1.2, .int .i64 a.2]) (g := w.heap.size) (by first | exact B0.out | exact Blk.drewN B0.out _ | exact Blk.drew B0.out) (by simp)
  have B1x := o.blk (t := 25) (cs := #[.int .i64 b.1.1, .int .i64 b.1.2, .int .i64 b.2]) (g := w.heap.size + 1) (by first | exact B1.out | exact Blk.drewN B1.out _ | exact Blk.drew B1.out) (by simp)
  have B2x := o.blk (t := 25) (cs := #[.int .i64 c.1.1, .int .i64 c.1.2, .int .i64 c.2]) (g := w.heap.size + 2) (by first | exact B2.out | exact Blk.drewN B2.out _ | exact Blk.drew B2.out) (by simp)
  have B3x := o.blk (t := 23) (cs := #[.int .i64 t.1, .int .i64 t.2]) (g := w.heap.size + 3) (by first | exact B3.out | exact Blk.drewN B3.out _ | exact Blk.drew B3.out) (by simp)
  have O6x : Only [] w w6 := (by first | exact Only.trans O5.out o (by simp) | exact Only.trans (Only.drewN O5.out _) o (by simp) | exact Only.trans (Only.drew O5.out) o (by simp))
  obtain ⟨B0c0, B0c1, B0c2, B0l⟩ := B0x.facts3
  obtain ⟨B1c0, B1c1, B1c2, B1l⟩ := B1x.facts3
  obtain ⟨B2c0, B2c1, B2c2, B2l⟩ := B2x.facts3
  obtain ⟨B3c0, B3c1, B3l⟩ := B3x.facts2
  clear B0 B1 B2 B3 O5 o
  have B0 := Lib.hid B0x; have B1 := Lib.hid B1x; have B2 := Lib.hid B2x; have B3 := Lib.hid B3x; have O6 := Lib.hid O6x
  clear B0x B1x B2x B3x O6x
  go_wp2_with (fail)
  refine (strightr hb Rb.out _).mono ?_
  rintro e w7 ⟨rfl, o⟩
  have B0x := o.blk (t := 25) (cs := #[.int .i64 a.1.1, .int .i64 a.1.2, .int .i64 a.2]) (g := w.heap.size) (by first | exact B0.out | exact Blk.drewN B0.out _ | exact Blk.drew B0.out) (by simp)
  have B1x := o.blk (t := 25) (cs := #[.int .i64 b.1.1, .int .i64 b.1.2, .int .i64 b.2]) (g := w.heap.size + 1) (by first | exact B1.out | exact Blk.drewN B1.out _ | exact Blk.drew B1.out) (by simp)
  have B2x := o.blk (t := 25) (cs := #[.int .i64 c.1.1, .int .i64 c.1.2, .int .i64 c.2]) (g := w.heap.size + 2) (by first | exact B2.out | exact Blk.drewN B2.out _ | exact Blk.drew B2.out) (by simp)
  have B3x := o.blk (t := 23) (cs := #[.int .i64 t.1, .int .i64 t.2]) (g := w.heap.size + 3) (by first | exact B3.out | exact Blk.drewN B3.out _ | exact Blk.drew B3.out) (by simp)
  have O7x : Only [] w w7 := (by first | exact Only.trans O6.out o (by simp) | exact Only.trans (Only.drewN O6.out _) o (by simp) | exact Only.trans (Only.drew O6.out) o (by simp))
  obtain ⟨B0c0, B0c1, B0c2, B0l⟩ := B0x.facts3
  obtain ⟨B1c0, B1c1, B1c2, B1l⟩ := B1x.facts3
  obtain ⟨B2c0, B2c1, B2c2, B2l⟩ := B2x.facts3
  obtain ⟨B3c0, B3c1, B3l⟩ := B3x.facts2
  clear B0 B1 B2 B3 O6 o
  have B0 := Lib.hid B0x; have B1 := Lib.hid B1x; have B2 := Lib.hid B2x; have B3 := Lib.hid B3x; have O7 := Lib.hid O7x
  clear B0x B1x B2x B3x O7x
  go_wp2_with (fail)
  refine (of_any c _).mono ?_
  rintro e w8 ⟨rfl, o⟩
  have B0x := o.blk (t := 25) (cs := #[.int .i64 a.1.1, .int .i64 a.1.2, .int .i64 a.2]) (g := w.heap.size) (by first | exact B0.out | exact Blk.drewN B0.out _ | exact Blk.drew B0.out) (by simp)
  have B1x := o.blk (t := 25) (cs := #[.int .i64 b.1.1, .int .i64 b.1.2, .int .i64 b.2]) (g := w.heap.size + 1) (by first | exact B1.out | exact Blk.drewN B1.out _ | exact Blk.drew B1.out) (by simp)
  have B2x := o.blk (t := 25) (cs := #[.int .i64 c.1.1, .int .i64 c.1.2, .int .i64 c.2]) (g := w.heap.size + 2) (by first | exact B2.out | exact Blk.drewN B2.out _ | exact Blk.drew B2.out) (by simp)
  have B3x := o.blk (t := 23) (cs := #[.int .i64 t.1, .int .i64 t.2]) (g := w.heap.size + 3) (by first | exact B3.out | exact Blk.drewN B3.out _ | exact Blk.drew B3.out) (by simp)
  have O8x : Only [] w w8 := (by first | exact Only.trans O7.out o (by simp) | exact Only.trans (Only.drewN O7.out _) o (by simp) | exact Only.trans (Only.drew O7.out) o (by simp))
  obtain ⟨B0c0, B0c1, B0c2, B0l⟩ := B0x.facts3
  obtain ⟨B1c0, B1c1, B1c2, B1l⟩ := B1x.facts3
  obtain ⟨B2c0, B2c1, B2c2, B2l⟩ := B2x.facts3
  obtain ⟨B3c0, B3c1, B3l⟩ := B3x.facts2
  clear B0 B1 B2 B3 O7 o
  have B0 := Lib.hid B0x; have B1 := Lib.hid B1x; have B2 := Lib.hid B2x; have B3 := Lib.hid B3x; have O8 := Lib.hid O8x
  clear B0x B1x B2x B3x O8x
  go_wp2_with (fail)
  refine (strightr hc Rc.out _).mono ?_
  rintro e w9 ⟨rfl, o⟩
  have B0x := o.blk (t := 25) (cs := #[.int .i64 a.1.1, .int .i64 a.1.2, .int .i64 a.2]) (g := w.heap.size) (by first | exact B0.out | exact Blk.drewN B0.out _ | exact Blk.drew B0.out) (by simp)
  have B1x := o.blk (t := 25) (cs := #[.int .i64 b.1.1, .int .i64 b.1.2, .int .i64 b.2]) (g := w.heap.size + 1) (by first | exact B1.out | exact Blk.drewN B1.out _ | exact Blk.drew B1.out) (by simp)
  have B2x := o.blk (t := 25) (cs := #[.int .i64 c.1.1, .int .i64 c.1.2, .int .i64 c.2]) (g := w.heap.size + 2) (by first | exact B2.out | exact Blk.drewN B2.out _ | exact Blk.drew B2.out) (by simp)
  have B3x := o.blk (t := 23) (cs := #[.int .i64 t.1, .int .i64 t.2]) (g := w.heap.size + 3) (by first | exact B3.out | exact Blk.drewN B3.out _ | exact Blk.drew B3.out) (by simp)
  have O9x : Only [] w w9 := (by first | exact Only.trans O8.out o (by simp) | exact Only.trans (Only.drewN O8.out _) o (by simp) | exact Only.trans (Only.drew O8.out) o (by simp))
  obtain ⟨B0c0, B0c1, B0c2, B0l⟩ := B0x.facts3
  obtain ⟨B1c0, B1c1, B1c2, B1l⟩ := B1x.facts3
  obtain ⟨B2c0, B2c1, B2c2, B2l⟩ := B2x.facts3
  obtain ⟨B3c0, B3c1, B3l⟩ := B3x.facts2
  clear B0 B1 B2 B3 O8 o
  have B0 := Lib.hid B0x; have B1 := Lib.hid B1x; have B2 := Lib.hid B2x; have B3 := Lib.hid B3x; have O9 := Lib.hid O9x
  clear B0x B1x B2x B3x O9x
  go_wp2_with (fail)
  refine wp_region_facts 26 [] (fr := ?frc) (tl := ?tlc) (fun i v wv => match i with
    | 0 => v = .int .i64 x
    | 1 => v = .bool p
    | 2 => v = .agg #[.int .i64 a.1.1, .int .i64 a.1.2, .int .i64 a.2]
    | 3 => v = .agg #[.int .i64 b.1.1, .int .i64 b.1.2, .int .i64 b.2]
    | 4 => v = .bool p
    | 5 => v = .bool false
    | 6 => v = .bool false
    | 7 => v = .int .i64 x
    | 8 => v = .bool true
    | 9 => v = .bool true
    | 10 => v = .agg #[.int .i64 b.1.1, .int .i64 b.1.2, .int .i64 b.2]
    | 11 => v = .agg #[.int .i64 b.1.1, .int .i64 b.1.2, .int .i64 b.2]
    | 12 => v = .agg #[.int .i64 c.1.1, .int .i64 c.1.2, .int .i64 c.2]
    | 13 => v = .agg #[.int .i64 c.1.1, .int .i64 c.1.2, .int .i64 c.2]
    | 14 => v = .int .i64 s
    | 15 => v = .bool true
    | 16 => v = .bool true
    | 17 => v = .bool true
    | 18 => v = .agg #[.int .i64 a.1.1, .int .i64 a.1.2, .int .i64 a.2]
    | 19 => v = .agg #[.int .i64 a.1.1, .int .i64 a.1.2, .int .i64 a.2]
    | 20 => v = .agg #[.int .i64 c.1.1, .int .i64 c.1.2, .int .i64 c.2]
    | 21 => v = .agg #[.int .i64 c.1.1, .int .i64 c.1.2, .int .i64 c.2]
    | 22 => v = .int .i64 k
    | 23 => v = .bool false
    | 24 => v = .bool false
    | 25 => v = .bool false
    | _ => True) (by kernel_rfl) (by kernel_rfl) (by kernel_rfl) (by kernel_rfl) (by decide) ?htlc ?hfrc ?stabc ?stepsc ?donec
  case htlc => simp only [List.drop_succ_cons, List.drop_zero]; rfl
  case hfrc => intro vals; simp only [putAll, dstAt, Act.put, List.getElem?_toArray, List.getElem?_cons_zero, List.getElem?_cons_succ, Option.bind_some, List.setIfInBounds_toArray, List.set_cons_zero, List.set_cons_succ]; rfl
  case stabc =>
    intro i v wa wb h
    try dsimp only
    split <;> first | exact id | fail
  case stepsc =>
    refine ⟨?_, ?_, ?_, ?_, ?_, ?_, ?_, ?_, ?_, ?_, ?_, ?_, ?_, ?_, ?_, ?_, ?_, ?_, ?_, ?_, ?_, ?_, ?_, ?_, ?_, ?_, trivial⟩
    · intro vals wr hR hp K hK
      dsimp only at hK ⊢
      clear hp
      unfold RunsOp
      go_simp
      exact hK.out _ _ ⟨_, rfl, Only.refl _ _, rfl⟩
    · intro vals wr hR hp K hK
      dsimp only at hK ⊢
      obtain ⟨p0, -⟩ := hp
      replace p0 := p0 rfl
      dsimp only at p0
      rw [p0] at hK ⊢
      clear p0
      unfold RunsOp
      go_simp
      exact hK.out _ _ ⟨_, rfl, Only.refl _ _, rfl⟩
    · intro vals wr hR hp K hK
      dsimp only at hK ⊢
      clear hp
      unfold RunsOp
      have tb0 := hR.blk (by first | exact B0.out | exact Blk.drew B0.out) (by simp)
      obtain ⟨c00, c01, c02, cl0⟩ := tb0.facts3
      clear tb0
      go_simp
      exact hK.out _ _ ⟨_, rfl, Only.refl _ _, rfl⟩
    · intro vals wr hR hp K hK
      dsimp only at hK ⊢
      clear hp
      unfold RunsOp
      have tb1 := hR.blk (by first | exact B1.out | exact Blk.drew B1.out) (by simp)
      obtain ⟨c10, c11, c12, cl1⟩ := tb1.facts3
      clear tb1
      go_simp
      exact hK.out _ _ ⟨_, rfl, Only.refl _ _, rfl⟩
    · intro vals wr hR hp K hK
      dsimp only at hK ⊢
      obtain ⟨p2, p3, -⟩ := hp
      replace p2 := p2 rfl
      replace p3 := p3 rfl
      dsimp only at p2 p3
      rw [p2, p3] at hK ⊢
      clear p2 p3
      unfold RunsOp
      go_simp
      exact hK.out _ _ ⟨_, rfl, Only.refl _ _, rfl⟩
    · intro vals wr hR hp K hK
      dsimp only at hK ⊢
      obtain ⟨p1, p4, -⟩ := hp
      replace p1 := p1 rfl
      replace p4 := p4 rfl
      dsimp only at p1 p4
      rw [p1, p4] at hK ⊢
      clear p1 p4
      unfold RunsOp
      go_simp
      exact hK.out _ _ ⟨_, rfl, Only.refl _ _, rfl⟩
    · intro vals wr hR hp K hK
      dsimp only at hK ⊢
      obtain ⟨p5, -⟩ := hp
      replace p5 := p5 rfl
      dsimp only at p5
      rw [p5] at hK ⊢
      clear p5
      unfold RunsOp
      go_simp
      exact hK.out _ _ ⟨_, rfl, Only.refl _ _, rfl⟩
    · intro vals wr hR hp K hK
      dsimp only at hK ⊢
      obtain ⟨p6, -⟩ := hp
      replace p6 := p6 rfl
      dsimp only at p6
      rw [p6] at hK ⊢
      clear p6
      unfold RunsOp
      go_simp
      exact hK.out _ _ ⟨_, rfl, Only.refl _ _, rfl⟩
    · intro vals wr hR hp K hK
      dsimp only at hK ⊢
      obtain ⟨p7, p6, -⟩ := hp
      replace p7 := p7 rfl
      replace p6 := p6 rfl
      dsimp only at p7 p6
      rw [p7, p6] at hK ⊢
      clear p7 p6
      unfold RunsOp
      go_simp
      exact hK.out _ _ ⟨_, rfl, Only.refl _ _, rfl⟩
    · intro vals wr hR hp K hK
      dsimp only at hK ⊢
      obtain ⟨p8, p6, -, -⟩ := hp
      replace p8 := p8 rfl
      replace p6 := p6 rfl
      dsimp only at p8 p6
      rw [p8, p6] at hK ⊢
      clear p8 p6
      unfold RunsOp
      go_simp
      exact hK.out _ _ ⟨_, rfl, Only.refl _ _, rfl⟩
    · intro vals wr hR hp K hK
      dsimp only at hK ⊢
      obtain ⟨p9, -⟩ := hp
      replace p9 := p9 rfl
      dsimp only at p9
      rw [p9] at hK ⊢
      clear p9
      unfold RunsOp
      have tb1 := hR.blk (by first | exact B1.out | exact Blk.drew B1.out) (by simp)
      obtain ⟨c10, c11, c12, cl1⟩ := tb1.facts3
      clear tb1
      go_simp
      exact hK.out _ _ ⟨_, rfl, Only.refl _ _, rfl⟩
    · intro vals wr hR hp K hK
      dsimp only at hK ⊢
      obtain ⟨p10, p9, -, -⟩ := hp
      replace p10 := p10 rfl
      replace p9 := p9 rfl
      dsimp only at p10 p9
      rw [p10, p9] at hK ⊢
      clear p10 p9
      unfold RunsOp
      go_simp
      refine (of_any b _).mono ?_
      rintro e w2 ⟨rfl, o2⟩
      exact hK.out _ _ ⟨_, rfl, o2, rfl⟩
    · intro vals wr hR hp K hK
      dsimp only at hK ⊢
      obtain ⟨p9, -⟩ := hp
      replace p9 := p9 rfl
      dsimp only at p9
      rw [p9] at hK ⊢
      clear p9
      unfold RunsOp
      have tb2 := hR.blk (by first | exact B2.out | exact Blk.drew B2.out) (by simp)
      obtain ⟨c20, c21, c22, cl2⟩ := tb2.facts3
      clear tb2
      go_simp
      exact hK.out _ _ ⟨_, rfl, Only.refl _ _, rfl⟩
    · intro vals wr hR hp K hK
      dsimp only at hK ⊢
      obtain ⟨p12, -, p9, -⟩ := hp
      replace p12 := p12 rfl
      replace p9 := p9 rfl
      dsimp only at p12 p9
      rw [p12, p9] at hK ⊢
      clear p12 p9
      unfold RunsOp
      go_simp
      refine (of_any c _).mono ?_
      rintro e w2 ⟨rfl, o2⟩
      exact hK.out _ _ ⟨_, rfl, o2, rfl⟩
    · intro vals wr hR hp K hK
      dsimp only at hK ⊢
      obtain ⟨p11, p13, -, p9, -⟩ := hp
      replace p11 := p11 rfl
      replace p13 := p13 rfl
      replace p9 := p9 rfl
      dsimp only at p11 p13 p9
      obtain p11 := p11
      obtain p13 := p13
      rw [p11, p13, p9] at hK ⊢
      clear p11 p13 p9
      unfold RunsOp
      go_simp
      refine (stcmpr b c hb hc H3.out _).mono ?_
      rintro e w2 ⟨rfl, o2⟩
      exact hK.out _ _ ⟨_, rfl, o2, rfl⟩
    · intro vals wr hR hp K hK
      dsimp only at hK ⊢
      obtain ⟨p14, p9, -⟩ := hp
      replace p14 := p14 rfl
      replace p9 := p9 rfl
      dsimp only at p14 p9
      obtain p14 := p14
      rw [p14, p9] at hK ⊢
      clear p14 p9
      unfold RunsOp
      go_simp
      exact hK.out _ _ ⟨_, rfl, Only.refl _ _, rfl⟩
    · intro vals wr hR hp K hK
      dsimp only at hK ⊢
      obtain ⟨p9, p15, p6, -⟩ := hp
      replace p9 := p9 rfl
      replace p15 := p15 rfl
      replace p6 := p6 rfl
      dsimp only at p9 p15 p6
      rw [p9, p15, p6] at hK ⊢
      clear p9 p15 p6
      unfold RunsOp
      go_simp
      exact hK.out _ _ ⟨_, rfl, Only.refl _ _, rfl⟩
    · intro vals wr hR hp K hK
      dsimp only at hK ⊢
      obtain ⟨p16, -, p6, -⟩ := hp
      replace p16 := p16 rfl
      replace p6 := p6 rfl
      dsimp only at p16 p6
      rw [p16, p6] at hK ⊢
      clear p16 p6
      unfold RunsOp
      go_simp
      exact hK.out _ _ ⟨_, rfl, Only.refl _ _, rfl⟩
    · intro vals wr hR hp K hK
      dsimp only at hK ⊢
      obtain ⟨p17, -⟩ := hp
      replace p17 := p17 rfl
      dsimp only at p17
      rw [p17] at hK ⊢
      clear p17
      unfold RunsOp
      have tb0 := hR.blk (by first | exact B0.out | exact Blk.drew B0.out) (by simp)
      obtain ⟨c00, c01, c02, cl0⟩ := tb0.facts3
      clear tb0
      go_simp
      exact hK.out _ _ ⟨_, rfl, Only.refl _ _, rfl⟩
    · intro vals wr hR hp K hK
      dsimp only at hK ⊢
      obtain ⟨p18, p17, -, -⟩ := hp
      replace p18 := p18 rfl
      replace p17 := p17 rfl
      dsimp only at p18 p17
      rw [p18, p17] at hK ⊢
      clear p18 p17
      unfold RunsOp
      go_simp
      refine (of_any a _).mono ?_
      rintro e w2 ⟨rfl, o2⟩
      exact hK.out _ _ ⟨_, rfl, o2, rfl⟩
    · intro vals wr hR hp K hK
      dsimp only at hK ⊢
      obtain ⟨p17, -⟩ := hp
      replace p17 := p17 rfl
      dsimp only at p17
      rw [p17] at hK ⊢
      clear p17
      unfold RunsOp
      have tb2 := hR.blk (by first | exact B2.out | exact Blk.drew B2.out) (by simp)
      obtain ⟨c20, c21, c22, cl2⟩ := tb2.facts3
      clear tb2
      go_simp
      exact hK.out _ _ ⟨_, rfl, Only.refl _ _, rfl⟩
    · intro vals wr hR hp K hK
      dsimp only at hK ⊢
      obtain ⟨p20, -, p17, -⟩ := hp
      replace p20 := p20 rfl
      replace p17 := p17 rfl
      dsimp only at p20 p17
      rw [p20, p17] at hK ⊢
      clear p20 p17
      unfold RunsOp
      go_simp
      refine (of_any c _).mono ?_
      rintro e w2 ⟨rfl, o2⟩
      exact hK.out _ _ ⟨_, rfl, o2, rfl⟩
    · intro vals wr hR hp K hK
      dsimp only at hK ⊢
      obtain ⟨p19, p21, -, p17, -⟩ := hp
      replace p19 := p19 rfl
      replace p21 := p21 rfl
      replace p17 := p17 rfl
      dsimp only at p19 p21 p17
      obtain p19 := p19
      obtain p21 := p21
      rw [p19, p21, p17] at hK ⊢
      clear p19 p21 p17
      unfold RunsOp
      go_simp
      refine (stcmpr a c ha hc H4.out _).mono ?_
      rintro e w2 ⟨rfl, o2⟩
      exact hK.out _ _ ⟨_, rfl, o2, rfl⟩
    · intro vals wr hR hp K hK
      dsimp only at hK ⊢
      obtain ⟨p22, p17, -⟩ := hp
      replace p22 := p22 rfl
      replace p17 := p17 rfl
      dsimp only at p22 p17
      obtain p22 := p22
      rw [p22, p17] at hK ⊢
      clear p22 p17
      unfold RunsOp
      go_simp
      exact hK.out _ _ ⟨_, rfl, Only.refl _ _, rfl⟩
    · intro vals wr hR hp K hK
      dsimp only at hK ⊢
      obtain ⟨p17, p23, p6, -⟩ := hp
      replace p17 := p17 rfl
      replace p23 := p23 rfl
      replace p6 := p6 rfl
      dsimp only at p17 p23 p6
      rw [p17, p23, p6] at hK ⊢
      clear p17 p23 p6
      unfold RunsOp
      go_simp
      exact hK.out _ _ ⟨_, rfl, Only.refl _ _, rfl⟩
    · intro vals wr hR hp K hK
      dsimp only at hK ⊢
      obtain ⟨p6, p24, -⟩ := hp
      replace p6 := p6 rfl
      replace p24 := p24 rfl
      dsimp only at p6 p24
      rw [p6, p24] at hK ⊢
      clear p6 p24
      unfold RunsOp
      go_simp
      exact hK.out _ _ ⟨_, rfl, Only.refl _ _, rfl⟩
  intro vals w10 hR hF
  have f25 : vals 25 = .bool false := hF 25 (by decide)
  rw [f25]
  clear hF f25
  refine wpList_nil ?_
  have B0x := hR.blk (t := 25) (cs := #[.int .i64 a.1.1, .int .i64 a.1.2, .int .i64 a.2]) (g := w.heap.size) (by first | exact B0.out | exact Blk.drewN B0.out _ | exact Blk.drew B0.out) (by simp)
  have B1x := hR.blk (t := 25) (cs := #[.int .i64 b.1.1, .int .i64 b.1.2, .int .i64 b.2]) (g := w.heap.size + 1) (by first | exact B1.out | exact Blk.drewN B1.out _ | exact Blk.drew B1.out) (by simp)
  have B2x := hR.blk (t := 25) (cs := #[.int .i64 c.1.1, .int .i64 c.1.2, .int .i64 c.2]) (g := w.heap.size + 2) (by first | exact B2.out | exact Blk.drewN B2.out _ | exact Blk.drew B2.out) (by simp)
  have B3x := hR.blk (t := 23) (cs := #[.int .i64 t.1, .int .i64 t.2]) (g := w.heap.size + 3) (by first | exact B3.out | exact Blk.drewN B3.out _ | exact Blk.drew B3.out) (by simp)
  have O10x : Only [] w w10 := (by first | exact Only.trans O9.out hR (by simp) | exact Only.trans (Only.drewN O9.out _) hR (by simp) | exact Only.trans (Only.drew O9.out) hR (by simp))
  obtain ⟨B0c0, B0c1, B0c2, B0l⟩ := B0x.facts3
  obtain ⟨B1c0, B1c1, B1c2, B1l⟩ := B1x.facts3
  obtain ⟨B2c0, B2c1, B2c2, B2l⟩ := B2x.facts3
  obtain ⟨B3c0, B3c1, B3l⟩ := B3x.facts2
  clear B0 B1 B2 B3 O9 hR
  have B0 := Lib.hid B0x; have B1 := Lib.hid B1x; have B2 := Lib.hid B2x; have B3 := Lib.hid B3x; have O10 := Lib.hid O10x
  clear B0x B1x B2x B3x O10x
  go_wp2_with (fail)
  go_wp2_with (fail)
  refine wp_region_factsD 8 [6] [] (fr := ?frd) (tl := ?tld) (fun i v wv => match i with
    | 0 => v = .agg #[.int .i64 a.1.1, .int .i64 a.1.2, .int .i64 a.2]
    | 1 => v = .agg #[.int .i64 a.1.1, .int .i64 a.1.2, .int .i64 a.2]
    | 2 => v = .agg #[.int .i64 t.1, .int .i64 t.2]
    | 3 => v = .tuple #[.agg #[.int .i64 0, .int .i64 0, .int .i64 0], .int .i64 e]
    | 4 => v = .tuple #[.agg #[.int .i64 0, .int .i64 0, .int .i64 0], .int .i64 e]
    | 5 => v = .agg #[.int .i64 0, .int .i64 0, .int .i64 0]
    | 6 => v = .int .i64 e
    | 7 => ∃ g, w.heap.size + 4 ≤ g ∧ v = .pointer (some ⟨g, 0, none⟩) ∧ Blk wv g 27 #[.int .i64 0, .int .i64 0, .int .i64 0]
    | _ => True) (by kernel_rfl) (by kernel_rfl) (by kernel_rfl) (by kernel_rfl) (by kernel_rfl) (by kernel_rfl) (by decide) (fun _ _ _ _ _ h => h) ?htld ?hfrd ?stabd ?detsd ?stepsd ?doned
  case htld => simp only [List.drop_succ_cons, List.drop_zero]; rfl
  case hfrd => intro vals; simp only [putAll, dstAt, Act.put, List.getElem?_toArray, List.getElem?_cons_zero, List.getElem?_cons_succ, Option.bind_some, List.setIfInBounds_toArray, List.set_cons_zero, List.set_cons_succ]; rfl
  case stabd =>
    intro i v wa wb h
    try dsimp only
    split <;> first | exact id | (rintro ⟨g, hg, e, hb⟩; exact ⟨g, hg, e, h.blk hb (by simp)⟩)
  case detsd =>
    refine ⟨?_, trivial⟩
    · intro o ho vals wr hR hp
      cases ho
      obtain ⟨p4, -, -⟩ := hp
      replace p4 := p4 rfl
      dsimp only at p4
      dsimp only
      rw [p4]
      refine ⟨.int .i64 e, Or.inl ⟨by rfl, fun wz => ?_⟩, rfl⟩
      go_simp
  case stepsd =>
    refine ⟨?_, ?_, ?_, ?_, ?_, ?_, ?_, ?_, trivial⟩
    · refine .inr ?_
      intro vals wr hR hp K hK
      dsimp only at hK ⊢
      clear hp
      unfold RunsOp
      have tb0 := hR.blk (by first | exact B0.out | exact Blk.drew B0.out) (by simp)
      obtain ⟨c00, c01, c02, cl0⟩ := tb0.facts3
      clear tb0
      go_simp
      exact hK.out _ _ ⟨_, rfl, Only.refl _ _, rfl⟩
    · refine .inr ?_
      intro vals wr hR hp K hK
      dsimp only at hK ⊢
      obtain ⟨p0, -⟩ := hp
      replace p0 := p0 rfl
      dsimp only at p0
      rw [p0] at hK ⊢
      clear p0
      unfold RunsOp
      go_simp
      refine (of_any a _).mono ?_
      rintro e w2 ⟨rfl, o2⟩
      exact hK.out _ _ ⟨_, rfl, o2, rfl⟩
    · refine .inr ?_
      intro vals wr hR hp K hK
      dsimp only at hK ⊢
      clear hp
      unfold RunsOp
      have tb3 := hR.blk (by first | exact B3.out | exact Blk.drew B3.out) (by simp)
      obtain ⟨c30, c31, cl3⟩ := tb3.facts2
      clear tb3
      go_simp
      exact hK.out _ _ ⟨_, rfl, Only.refl _ _, rfl⟩
    · refine .inr ?_
      intro vals wr hR hp K hK
      dsimp only at hK ⊢
      obtain ⟨p1, p2, -, -⟩ := hp
      replace p1 := p1 rfl
      replace p2 := p2 rfl
      dsimp only at p1 p2
      obtain p1 := p1
      rw [p1, p2] at hK ⊢
      clear p1 p2
      unfold RunsOp
      go_simp
      refine (afterr a t ha to H5.out _).mono ?_
      rintro e w2 ⟨rfl, o2⟩
      exact hK.out _ _ ⟨_, rfl, o2, rfl⟩
    · refine .inr ?_
      intro vals wr hR hp K hK
      dsimp only at hK ⊢
      obtain ⟨p3, -⟩ := hp
      replace p3 := p3 rfl
      dsimp only at p3
      obtain p3 := p3
      rw [p3] at hK ⊢
      clear p3
      unfold RunsOp
      go_simp
      exact hK.out _ _ ⟨_, rfl, Only.refl _ _, rfl⟩
    · refine .inr ?_
      intro vals wr hR hp K hK
      dsimp only at hK ⊢
      obtain ⟨p4, -⟩ := hp
      replace p4 := p4 rfl
      dsimp only at p4
      rw [p4] at hK ⊢
      clear p4
      unfold RunsOp
      go_simp
      exact hK.out _ _ ⟨_, rfl, Only.refl _ _, rfl⟩
    · exact .inl (by decide)
    · refine .inr ?_
      intro vals wr hR hp K hK
      dsimp only at hK ⊢
      clear hp
      unfold RunsOp
      have hsz := hR.size
      have hs0 := O10.out.size
      go_simp
      exact hK.out _ _ ⟨_, rfl, (Only.refl [] wr).alloc _, ⟨_, by simp at hsz hs0 B3l; omega, rfl, Blk.new wr 27 _⟩⟩
  intro vals w11 hR hF
  have f5 : vals 5 = .agg #[.int .i64 0, .int .i64 0, .int .i64 0] := hF 5 (by decide)
  have f6 : vals 6 = .int .i64 e := hF 6 (by decide)
  have f7 : ∃ g, w.heap.size + 4 ≤ g ∧ (vals 7) = .pointer (some ⟨g, 0, none⟩) ∧ Blk w11 g 27 #[.int .i64 0, .int .i64 0, .int .i64 0] := hF 7 (by decide)
  rw [f5, f6]
  clear hF f5 f6
  have B0x := hR.blk (t := 25) (cs := #[.int .i64 a.1.1, .int .i64 a.1.2, .int .i64 a.2]) (g := w.heap.size) (by first | exact B0.out | exact Blk.drewN B0.out _ | exact Blk.drew B0.out) (by simp)
  have B1x := hR.blk (t := 25) (cs := #[.int .i64 b.1.1, .int .i64 b.1.2, .int .i64 b.2]) (g := w.heap.size + 1) (by first | exact B1.out | exact Blk.drewN B1.out _ | exact Blk.drew B1.out) (by simp)
  have B2x := hR.blk (t := 25) (cs := #[.int .i64 c.1.1, .int .i64 c.1.2, .int .i64 c.2]) (g := w.heap.size + 2) (by first | exact B2.out | exact Blk.drewN B2.out _ | exact Blk.drew B2.out) (by simp)
  have B3x := hR.blk (t := 23) (cs := #[.int .i64 t.1, .int .i64 t.2]) (g := w.heap.size + 3) (by first | exact B3.out | exact Blk.drewN B3.out _ | exact Blk.drew B3.out) (by simp)
  have O11x : Only [] w w11 := (by first | exact Only.trans O10.out hR (by simp) | exact Only.trans (Only.drewN O10.out _) hR (by simp) | exact Only.trans (Only.drew O10.out) hR (by simp))
  obtain ⟨B0c0, B0c1, B0c2, B0l⟩ := B0x.facts3
  obtain ⟨B1c0, B1c1, B1c2, B1l⟩ := B1x.facts3
  obtain ⟨B2c0, B2c1, B2c2, B2l⟩ := B2x.facts3
  obtain ⟨B3c0, B3c1, B3l⟩ := B3x.facts2
  clear B0 B1 B2 B3 O10 hR
  have B0 := Lib.hid B0x; have B1 := Lib.hid B1x; have B2 := Lib.hid B2x; have B3 := Lib.hid B3x; have O11 := Lib.hid O11x
  clear B0x B1x B2x B3x O11x
  obtain ⟨g, hg, e7, hb7⟩ := f7
  rw [e7]
  clear e7
  obtain ⟨B4c0, B4c1, B4c2, B4l⟩ := hb7.facts3
  have fr0 := hb7.frozen 0
  have fr1 := hb7.frozen 1
  have fr2 := hb7.frozen 2
  have B4 := Lib.hid hb7
  clear hb7
  have n0 : ¬ g = w.heap.size := by omega
  have n1 : ¬ g = w.heap.size + 1 := by omega
  have n2 : ¬ g = w.heap.size + 2 := by omega
  have n3 : ¬ g = w.heap.size + 3 := by omega
  have n0' : ¬ w.heap.size = g := by omega
  have n1' : ¬ w.heap.size + 1 = g := by omega
  have n2' : ¬ w.heap.size + 2 = g := by omega
  have n3' : ¬ w.heap.size + 3 = g := by omega
  go_wp2_with (fail)
  obtain ⟨wb, hwb⟩ : ∃ wb, (((w11.setCell ⟨g, 0, none⟩ (.int .i64 0)).setCell ⟨g, 1, none⟩ (.int .i64 0)).setCell ⟨g, 2, none⟩ (.int .i64 0)) = wb := ⟨_, rfl⟩
  rw [hwb]
  have B0x : Blk wb (w.heap.size) 25 #[.int .i64 a.1.1, .int .i64 a.1.2, .int .i64 a.2] := by rw [← hwb]; exact (((B0.out.far n0' _).far n0' _).far n0' _)
  have B1x : Blk wb (w.heap.size + 1) 25 #[.int .i64 b.1.1, .int .i64 b.1.2, .int .i64 b.2] := by rw [← hwb]; exact (((B1.out.far n1' _).far n1' _).far n1' _)
  have B2x : Blk wb (w.heap.size + 2) 25 #[.int .i64 c.1.1, .int .i64 c.1.2, .int .i64 c.2] := by rw [← hwb]; exact (((B2.out.far n2' _).far n2' _).far n2' _)
  have B3x : Blk wb (w.heap.size + 3) 23 #[.int .i64 t.1, .int .i64 t.2] := by rw [← hwb]; exact (((B3.out.far n3' _).far n3' _).far n3' _)
  have B4x : Blk wb (g) 27 #[.int .i64 0, .int .i64 0, .int .i64 0] := by rw [← hwb]; exact (((B4.out.set_ 0 _).set_ 1 _).set_ 2 _)
  have O12x : Only [] w wb := by rw [← hwb]; exact (((O11.out.setCell (.inr (by simp; omega)) _).setCell (.inr (by simp; omega)) _).setCell (.inr (by simp; omega)) _)
  clear B0 B1 B2 B3 B4 O11 hwb B0c0 B0c1 B0c2 B0l B1c0 B1c1 B1c2 B1l B2c0 B2c1 B2c2 B2l B3c0 B3c1 B3l B4c0 B4c1 B4c2 B4l
  have B0 := Lib.hid B0x; have B1 := Lib.hid B1x; have B2 := Lib.hid B2x; have B3 := Lib.hid B3x; have B4 := Lib.hid B4x; have O12 := Lib.hid O12x
  clear B0x B1x B2x B3x B4x O12x
  clear fr0 fr1 fr2
  obtain ⟨B4c0, B4c1, B4c2, B4l⟩ := B4.out.facts3
  go_wp2_with (fail)
  go_ret
  exact ⟨by first | rfl | simp, by first | exact O12.out | exact Only.drewN O12.out _⟩

end Go.Proofs.YtoefekgfklillaaDoor
