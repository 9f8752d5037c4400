/- SpanSums, SpanAsks: the laws' own walks. -/
import Derived.Test.YtgfmahfdkiblbaaDoorRefSum
namespace Go.Proofs.YtgfmahfdkiblbaaDoor
open Go.RowKit Go.Kx
set_option maxRecDepth 20000

theorem refaddr (a b : Tm) (ha : a.ok) (hb : b.ok) {s : Tm} {e : Int} (h : addT a b = (s, e)) (w : World) :
    Calls Tryd.prog 25 #[.agg #[.int .i64 a.1, .int .i64 a.2], .agg #[.int .i64 b.1, .int .i64 b.2]] w fun r w' => r = .returned (.tuple #[.agg #[.int .i64 s.1, .int .i64 s.2], .int .i64 e]) ∧ Only [] w w' := by
  have := refadd_any a b ha hb w
  rwa [h] at this
theorem refsubr (a b : Tm) (ha : a.ok) (hb : b.ok) {s : Tm} {e : Int} (h : subT a b = (s, e)) (w : World) :
    Calls Tryd.prog 26 #[.agg #[.int .i64 a.1, .int .i64 a.2], .agg #[.int .i64 b.1, .int .i64 b.2]] w fun r w' => r = .returned (.tuple #[.agg #[.int .i64 s.1, .int .i64 s.2], .int .i64 e]) ∧ Only [] w w' := by
  have := refsub_any a b ha hb w
  rwa [h] at this
theorem rightr {a : Tm} (ha : a.ok) {x : Bool} (h : a.right = x) (w : World) :
    Calls Tryd.prog 14 #[.agg #[.int .i64 a.1, .int .i64 a.2]] w fun e w' => e = .returned (.bool x) ∧ Only [] w w' := by
  have := right_any a.1 a.2 ha.1 ha.2 w
  unfold Tm.right at h
  rwa [h] at this
theorem refrightr {a : Tm} (ha : a.ok) {x : Bool} (h : a.right = x) (w : World) :
    Calls Tryd.prog 15 #[.agg #[.int .i64 a.1, .int .i64 a.2]] w fun e w' => e = .returned (.bool x) ∧ Only [] w w' := by
  have := refright_any a.1 a.2 ha.1 ha.2 w
  unfold Tm.right at h
  rwa [h] at this

set_option maxHeartbeats 2000000 in
theorem sums_all (a b : Tm) (ha : a.ok) (hb : b.ok) {s d : Tm} {e g : Int} (h1 : addT a b = (s, e)) (h2 : subT a b = (d, g)) (w : World) :
    Calls Tryd.prog 10 #[.agg #[.int .i64 a.1, .int .i64 a.2], .agg #[.int .i64 b.1, .int .i64 b.2]] w fun r w' => r = .returned (.bool true) ∧ Only [] w w' := by
  have H1 := Lib.hid h1
  have H2 := Lib.hid h2
  clear h1 h2
  have hE1 := eq_timesT s
  have hE2 := eq_timesT d
  have O0 := Lib.hid (Only.refl [] w)
  go_enter Tryd.func10, Tryd.ntmps10
  go_wp2_with (fail)
  refine (addr a b ha hb H1.out _).mono ?_
  rintro e w1 ⟨rfl, o⟩
  have B0n : Blk (w.alloc (.cells #[.int .i64 a.1, .int .i64 a.2] 23)) (w.heap.size) 23 #[.int .i64 a.1, .int .i64 a.2] := (by have h := Blk.new w 23 #[.int .i64 a.1, .int .i64 a.2]; simpa using h)
  have B1n : Blk ((w.alloc (.cells #[.int .i64 a.1, .int .i64 a.2] 23)).alloc (.cells #[.int .i64 b.1, .int .i64 b.2] 23)) (w.heap.size + 1) 23 #[.int .i64 b.1, .int .i64 b.2] := (by have h := Blk.new (w.alloc (.cells #[.int .i64 a.1, .int .i64 a.2] 23)) 23 #[.int .i64 b.1, .int .i64 b.2]; simpa using h)
  have B0x := o.blk (t := 23) (cs := #[.int .i64 a.1, .int .i64 a.2]) (g := w.heap.size) (by first | exact (B0n.alloc _) | exact Blk.drewN (B0n.alloc _) _ | exact Blk.drew (B0n.alloc _)) (by simp)
  have B1x := o.blk (t := 23) (cs := #[.int .i64 b.1, .int .i64 b.2]) (g := w.heap.size + 1) (by first | exact B1n | exact Blk.drewN B1n _ | exact Blk.drew B1n) (by simp)
  have O1x : Only [] w w1 := (by first | exact Only.trans ((O0.out.alloc _).alloc _) o (by simp) | exact Only.trans (Only.drewN ((O0.out.alloc _).alloc _) _) o (by simp) | exact Only.trans (Only.drew ((O0.out.alloc _).alloc _)) o (by simp))
  obtain ⟨B0c0, B0c1, B0l⟩ := B0x.facts2
  obtain ⟨B1c0, B1c1, B1l⟩ := B1x.facts2
  clear B0n B1n O0 o
  have B0 := Lib.hid B0x; have B1 := Lib.hid B1x; have O1 := Lib.hid O1x
  clear B0x B1x O1x
  go_wp2_with (fail)
  refine (refaddr a b ha hb H1.out _).mono ?_
  rintro e w2 ⟨rfl, o⟩
  have B2n : Blk (w1.alloc (.cells #[.int .i64 s.1, .int .i64 s.2] 23)) (w1.heap.size) 23 #[.int .i64 s.1, .int .i64 s.2] := (by have h := Blk.new w1 23 #[.int .i64 s.1, .int .i64 s.2]; simpa using h)
  have B0x := o.blk (t := 23) (cs := #[.int .i64 a.1, .int .i64 a.2]) (g := w.heap.size) (by first | exact (B0.out.alloc _) | exact Blk.drewN (B0.out.alloc _) _ | exact Blk.drew (B0.out.alloc _)) (by simp)
  have B1x := o.blk (t := 23) (cs := #[.int .i64 b.1, .int .i64 b.2]) (g := w.heap.size + 1) (by first | exact (B1.out.alloc _) | exact Blk.drewN (B1.out.alloc _) _ | exact Blk.drew (B1.out.alloc _)) (by simp)
  have B2x := o.blk (t := 23) (cs := #[.int .i64 s.1, .int .i64 s.2]) (g := w1.heap.size) (by first | exact B2n | exact Blk.drewN B2n _ | exact Blk.drew B2n) (by simp)
  have O2x : Only [] w w2 := (by first | exact Only.trans (O1.out.alloc _) o (by simp) | exact Only.trans (Only.drewN (O1.out.alloc _) _) o (by simp) | exact Only.trans (Only.drew (O1.out.alloc _)) o (by simp))
  obtain ⟨B0c0, B0c1, B0l⟩ := B0x.facts2
  obtain ⟨B1c0, B1c1, B1l⟩ := B1x.facts2
  obtain ⟨B2c0, B2c1, B2l⟩ := B2x.facts2
  clear B0 B1 B2n O1 o
  have B0 := Lib.hid B0x; have B1 := Lib.hid B1x; have B2 := Lib.hid B2x; have O2 := Lib.hid O2x
  clear B0x B1x B2x O2x
  go_wp2_with (fail)
  refine (subr a b ha hb H2.out _).mono ?_
  rintro e w3 ⟨rfl, o⟩
  have B3n : Blk (w2.alloc (.cells #[.int .i64 s.1, .int .i64 s.2] 23)) (w2.heap.size) 23 #[.int .i64 s.1, .int .i64 s.2] := (by have h := Blk.new w2 23 #[.int .i64 s.1, .int .i64 s.2]; simpa using h)
  have B0x := o.blk (t := 23) (cs := #[.int .i64 a.1, .int .i64 a.2]) (g := w.heap.size) (by first | exact (B0.out.alloc _) | exact Blk.drewN (B0.out.alloc _) _ | exact Blk.drew (B0.out.alloc _)) (by simp)
  have B1x := o.blk (t := 23) (cs := #[.int .i64 b.1, .int .i64 b.2]) (g := w.heap.size + 1) (by first | exact (B1.out.alloc _) | exact Blk.drewN (B1.out.alloc _) _ | exact Blk.drew (B1.out.alloc _)) (by simp)
  have B2x := o.blk (t := 23) (cs := #[.int .i64 s.1, .int .i64 s.2]) (g := w1.heap.size) (by first | exact (B2.out.alloc _) | exact Blk.drewN (B2.out.alloc _) _ | exact Blk.drew (B2.out.alloc _)) (by simp)
  have B3x := o.blk (t := 23) (cs := #[.int .i64 s.1, .int .i64 s.2]) (g := w2.heap.size) (by first | exact B3n | exact Blk.drewN B3n _ | exact Blk.drew B3n) (by simp)
  have O3x : Only [] w w3 := (by first | exact Only.trans (O2.out.alloc _) o (by simp) | exact Only.trans (Only.drewN (O2.out.alloc _) _) o (by simp) | exact Only.trans (Only.drew (O2.out.alloc _)) o (by simp))
  obtain ⟨B0c0, B0c1, B0l⟩ := B0x.facts2
  obtain ⟨B1c0, B1c1, B1l⟩ := B1x.facts2
  obtain ⟨B2c0, B2c1, B2l⟩ := B2x.facts2
  obtain ⟨B3c0, B3c1, B3l⟩ := B3x.facts2
  clear B0 B1 B2 B3n O2 o
  have B0 := Lib.hid B0x; have B1 := Lib.hid B1x; have B2 := Lib.hid B2x; have B3 := Lib.hid B3x; have O3 := Lib.hid O3x
  clear B0x B1x B2x B3x O3x
  go_wp2_with (fail)
  refine (refsubr a b ha hb H2.out _).mono ?_
  rintro e w4 ⟨rfl, o⟩
  have B4n : Blk (w3.alloc (.cells #[.int .i64 d.1, .int .i64 d.2] 23)) (w3.heap.size) 23 #[.int .i64 d.1, .int .i64 d.2] := (by have h := Blk.new w3 23 #[.int .i64 d.1, .int .i64 d.2]; simpa using h)
  have B0x := o.blk (t := 23) (cs := #[.int .i64 a.1, .int .i64 a.2]) (g := w.heap.size) (by first | exact (B0.out.alloc _) | exact Blk.drewN (B0.out.alloc _) _ | exact Blk.drew (B0.out.alloc _)) (by simp)
  have B1x := o.blk (t := 23) (cs := #[.int .i64 b.1, .int .i64 b.2]) (g := w.heap.size + 1) (by first | exact (B1.out.alloc _) | exact Blk.drewN (B1.out.alloc _) _ | exact Blk.drew (B1.out.alloc _)) (by simp)
  have B2x := o.blk (t := 23) (cs := #[.int .i64 s.1, .int .i64 s.2]) (g := w1.heap.size) (by first | exact (B2.out.alloc _) | exact Blk.drewN (B2.out.alloc _) _ | exact Blk.drew (B2.out.alloc _)) (by simp)
  have B3x := o.blk (t := 23) (cs := #[.int .i64 s.1, .int .i64 s.2]) (g := w2.heap.size) (by first | exact (B3.out.alloc _) | exact Blk.drewN (B3.out.alloc _) _ | exact Blk.drew (B3.out.alloc _)) (by simp)
  have B4x := o.blk (t := 23) (cs := #[.int .i64 d.1, .int .i64 d.2]) (g := w3.heap.size) (by first | exact B4n | exact Blk.drewN B4n _ | exact Blk.drew B4n) (by simp)
  have O4x : Only [] w w4 := (by first | exact Only.trans (O3.out.alloc _) o (by simp) | exact Only.trans (Only.drewN (O3.out.alloc _) _) o (by simp) | exact Only.trans (Only.drew (O3.out.alloc _)) o (by simp))
  obtain ⟨B0c0, B0c1, B0l⟩ := B0x.facts2
  obtain ⟨B1c0, B1c1, B1l⟩ := B1x.facts2
  obtain ⟨B2c0, B2c1, B2l⟩ := B2x.facts2
  obtain ⟨B3c0, B3c1, B3l⟩ := B3x.facts2
  obtain ⟨B4c0, B4c1, B4l⟩ := B4x.facts2
  clear B0 B1 B2 B3 B4n O3 o
  have B0 := Lib.hid B0x; have B1 := Lib.hid B1x; have B2 := Lib.hid B2x; have B3 := Lib.hid B3x; have B4 := Lib.hid B4x; have O4 := Lib.hid O4x
  clear B0x B1x B2x B3x B4x O4x
  go_wp2_with (fail)
  refine (awake_any _).mono ?_
  rintro e w5 ⟨rfl, o⟩
  have B5n : Blk (w4.alloc (.cells #[.int .i64 d.1, .int .i64 d.2] 23)) (w4.heap.size) 23 #[.int .i64 d.1, .int .i64 d.2] := (by have h := Blk.new w4 23 #[.int .i64 d.1, .int .i64 d.2]; simpa using h)
  have B0x := o.blk (t := 23) (cs := #[.int .i64 a.1, .int .i64 a.2]) (g := w.heap.size) (by first | exact (B0.out.alloc _) | exact Blk.drewN (B0.out.alloc _) _ | exact Blk.drew (B0.out.alloc _)) (by simp)
  have B1x := o.blk (t := 23) (cs := #[.int .i64 b.1, .int .i64 b.2]) (g := w.heap.size + 1) (by first | exact (B1.out.alloc _) | exact Blk.drewN (B1.out.alloc _) _ | exact Blk.drew (B1.out.alloc _)) (by simp)
  have B2x := o.blk (t := 23) (cs := #[.int .i64 s.1, .int .i64 s.2]) (g := w1.heap.size) (by first | exact (B2.out.alloc _) | exact Blk.drewN (B2.out.alloc _) _ | exact Blk.drew (B2.out.alloc _)) (by simp)
  have B3x := o.blk (t := 23) (cs := #[.int .i64 s.1, .int .i64 s.2]) (g := w2.heap.size) (by first | exact (B3.out.alloc _) | exact Blk.drewN (B3.out.alloc _) _ | exact Blk.drew (B3.out.alloc _)) (by simp)
  have B4x := o.blk (t := 23) (cs := #[.int .i64 d.1, .int .i64 d.2]) (g := w3.heap.size) (by first | exact (B4.out.alloc _) | exact Blk.drewN (B4.out.alloc _) _ | exact Blk.drew (B4.out.alloc _)) (by simp)
  have B5x := o.blk (t := 23) (cs := #[.int .i64 d.1, .int .i64 d.2]) (g := w4.heap.size) (by first | exact B5n | exact Blk.drewN B5n _ | exact Blk.drew B5n) (by simp)
  have O5x : Only [] w w5 := (by first | exact Only.trans (O4.out.alloc _) o (by simp) | exact Only.trans (Only.drewN (O4.out.alloc _) _) o (by simp) | exact Only.trans (Only.drew (O4.out.alloc _)) o (by simp))
  obtain ⟨B0c0, B0c1, B0l⟩ := B0x.facts2
  obtain ⟨B1c0, B1c1, B1l⟩ := B1x.facts2
  obtain ⟨B2c0, B2c1, B2l⟩ := B2x.facts2
  obtain ⟨B3c0, B3c1, B3l⟩ := B3x.facts2
  obtain ⟨B4c0, B4c1, B4l⟩ := B4x.facts2
  obtain ⟨B5c0, B5c1, B5l⟩ := B5x.facts2
  clear B0 B1 B2 B3 B4 B5n O4 o
  have B0 := Lib.hid B0x; have B1 := Lib.hid B1x; have B2 := Lib.hid B2x; have B3 := Lib.hid B3x; have B4 := Lib.hid B4x; have B5 := Lib.hid B5x; have O5 := Lib.hid O5x
  clear B0x B1x B2x B3x B4x B5x O5x
  go_wp2_with (fail)
  go_ret
  exact ⟨by first | rfl | simp, O5.out⟩

theorem sums_any (a b : Tm) (ha : a.ok) (hb : b.ok) (w : World) :
    Calls Tryd.prog 10 #[.agg #[.int .i64 a.1, .int .i64 a.2], .agg #[.int .i64 b.1, .int .i64 b.2]] w fun r w' => r = .returned (.bool true) ∧ Only [] w w' :=
  sums_all a b ha hb rfl rfl w

set_option maxHeartbeats 2000000 in
theorem asks_all (a b : Tm) (ha : a.ok) (hb : b.ok) {x : Bool} {y : Int} (h1 : a.right = x) (h2 : cmpT a b = y) (w : World) :
    Calls Tryd.prog 3 #[.agg #[.int .i64 a.1, .int .i64 a.2], .agg #[.int .i64 b.1, .int .i64 b.2]] w fun r w' => r = .returned (.bool true) ∧ Only [] w w' := by
  have H1 := Lib.hid h1
  have H2 := Lib.hid h2
  clear h1 h2
  have B0 := Lib.hid ((Blk.new w 23 #[.int .i64 a.1, .int .i64 a.2]).alloc (.cells #[.int .i64 b.1, .int .i64 b.2] 23))
  have B1 := Lib.hid (by simpa using Blk.new (w.alloc (.cells #[.int .i64 a.1, .int .i64 a.2] 23)) 23 #[.int .i64 b.1, .int .i64 b.2] : Blk ((w.alloc (.cells #[.int .i64 a.1, .int .i64 a.2] 23)).alloc (.cells #[.int .i64 b.1, .int .i64 b.2] 23)) (w.heap.size + 1) 23 #[.int .i64 b.1, .int .i64 b.2])
  have O0 := Lib.hid (((Only.refl [] w).alloc (.cells #[.int .i64 a.1, .int .i64 a.2] 23)).alloc (.cells #[.int .i64 b.1, .int .i64 b.2] 23))
  go_enter Tryd.func3, Tryd.ntmps3
  go_wp2_with (fail)
  refine wp_region_facts 17 [] (fr := ?fr) (tl := ?tl) (fun i v wv => match i with
    | 0 => v = .bool true
    | 1 => v = .bool true
    | 2 => v = .agg #[.int .i64 a.1, .int .i64 a.2]
    | 3 => v = .bool x
    | 4 => v = .agg #[.int .i64 a.1, .int .i64 a.2]
    | 5 => v = .bool x
    | 6 => v = .bool true
    | 7 => v = .bool true
    | 8 => v = .bool true
    | 9 => v = .agg #[.int .i64 a.1, .int .i64 a.2]
    | 10 => v = .agg #[.int .i64 b.1, .int .i64 b.2]
    | 11 => v = .int .i64 y
    | 12 => v = .agg #[.int .i64 a.1, .int .i64 a.2]
    | 13 => v = .agg #[.int .i64 b.1, .int .i64 b.2]
    | 14 => v = .int .i64 y
    | 15 => v = .bool true
    | 16 => v = .bool true
    | _ => True) (by kernel_rfl) (by kernel_rfl) (by kernel_rfl) (by kernel_rfl) (by decide) ?htl ?hfr ?stab ?steps ?done
  case htl => simp only [List.drop_succ_cons, List.drop_zero]; rfl
  case hfr => intro vals; simp only [putAll, dstAt, Act.put, List.getElem?_toArray, List.getElem?_cons_zero, List.getElem?_cons_succ, Option.bind_some, List.setIfInBounds_toArray, List.set_cons_zero, List.set_cons_succ]; rfl
  case stab =>
    intro i v wa wb h
    try dsimp only
    split <;> first | exact id | fail
  case steps =>
    refine ⟨?_, ?_, ?_, ?_, ?_, ?_, ?_, ?_, ?_, ?_, ?_, ?_, ?_, ?_, ?_, ?_, ?_, trivial⟩
    · intro vals wr hR hp K hK
      dsimp only at hK ⊢
      clear hp
      unfold RunsOp
      go_simp
      refine (awake_any _).mono ?_
      rintro e w2 ⟨rfl, o2⟩
      exact hK.out _ _ ⟨_, rfl, o2, rfl⟩
    · intro vals wr hR hp K hK
      dsimp only at hK ⊢
      obtain ⟨p0, -, -⟩ := hp
      replace p0 := p0 rfl
      dsimp only at p0
      obtain p0 := p0
      rw [p0] at hK ⊢
      clear p0
      unfold RunsOp
      go_simp
      exact hK.out _ _ ⟨_, rfl, Only.refl _ _, rfl⟩
    · intro vals wr hR hp K hK
      dsimp only at hK ⊢
      obtain ⟨p1, -⟩ := hp
      replace p1 := p1 rfl
      dsimp only at p1
      rw [p1] at hK ⊢
      clear p1
      unfold RunsOp
      have tb0 := hR.blk (Blk.drew B0.out) (by simp)
      obtain ⟨c00, c01, cl0⟩ := tb0.facts2
      clear tb0
      go_simp
      exact hK.out _ _ ⟨_, rfl, Only.refl _ _, rfl⟩
    · intro vals wr hR hp K hK
      dsimp only at hK ⊢
      obtain ⟨p2, p1, -, -⟩ := hp
      replace p2 := p2 rfl
      replace p1 := p1 rfl
      dsimp only at p2 p1
      rw [p2, p1] at hK ⊢
      clear p2 p1
      unfold RunsOp
      go_simp
      refine (rightr ha H1.out _).mono ?_
      rintro e w2 ⟨rfl, o2⟩
      exact hK.out _ _ ⟨_, rfl, o2, rfl⟩
    · intro vals wr hR hp K hK
      dsimp only at hK ⊢
      obtain ⟨p1, -⟩ := hp
      replace p1 := p1 rfl
      dsimp only at p1
      rw [p1] at hK ⊢
      clear p1
      unfold RunsOp
      have tb0 := hR.blk (Blk.drew B0.out) (by simp)
      obtain ⟨c00, c01, cl0⟩ := tb0.facts2
      clear tb0
      go_simp
      exact hK.out _ _ ⟨_, rfl, Only.refl _ _, rfl⟩
    · intro vals wr hR hp K hK
      dsimp only at hK ⊢
      obtain ⟨p4, -, p1, -⟩ := hp
      replace p4 := p4 rfl
      replace p1 := p1 rfl
      dsimp only at p4 p1
      rw [p4, p1] at hK ⊢
      clear p4 p1
      unfold RunsOp
      go_simp
      refine (refrightr ha H1.out _).mono ?_
      rintro e w2 ⟨rfl, o2⟩
      exact hK.out _ _ ⟨_, rfl, o2, rfl⟩
    · intro vals wr hR hp K hK
      dsimp only at hK ⊢
      obtain ⟨p3, p5, p1, -⟩ := hp
      replace p3 := p3 rfl
      replace p5 := p5 rfl
      replace p1 := p1 rfl
      dsimp only at p3 p5 p1
      obtain p3 := p3
      obtain p5 := p5
      rw [p3, p5, p1] at hK ⊢
      clear p3 p5 p1
      unfold RunsOp
      go_simp
      exact hK.out _ _ ⟨_, rfl, Only.refl _ _, rfl⟩
    · intro vals wr hR hp K hK
      dsimp only at hK ⊢
      obtain ⟨p1, p6, -⟩ := hp
      replace p1 := p1 rfl
      replace p6 := p6 rfl
      dsimp only at p1 p6
      rw [p1, p6] at hK ⊢
      clear p1 p6
      unfold RunsOp
      go_simp
      exact hK.out _ _ ⟨_, rfl, Only.refl _ _, rfl⟩
    · intro vals wr hR hp K hK
      dsimp only at hK ⊢
      obtain ⟨p7, -, -⟩ := hp
      replace p7 := p7 rfl
      dsimp only at p7
      rw [p7] at hK ⊢
      clear p7
      unfold RunsOp
      go_simp
      exact hK.out _ _ ⟨_, rfl, Only.refl _ _, rfl⟩
    · intro vals wr hR hp K hK
      dsimp only at hK ⊢
      obtain ⟨p8, -⟩ := hp
      replace p8 := p8 rfl
      dsimp only at p8
      rw [p8] at hK ⊢
      clear p8
      unfold RunsOp
      have tb0 := hR.blk (Blk.drew B0.out) (by simp)
      obtain ⟨c00, c01, cl0⟩ := tb0.facts2
      clear tb0
      go_simp
      exact hK.out _ _ ⟨_, rfl, Only.refl _ _, rfl⟩
    · intro vals wr hR hp K hK
      dsimp only at hK ⊢
      obtain ⟨p8, -⟩ := hp
      replace p8 := p8 rfl
      dsimp only at p8
      rw [p8] at hK ⊢
      clear p8
      unfold RunsOp
      have tb1 := hR.blk (Blk.drew B1.out) (by simp)
      obtain ⟨c10, c11, cl1⟩ := tb1.facts2
      clear tb1
      go_simp
      exact hK.out _ _ ⟨_, rfl, Only.refl _ _, rfl⟩
    · intro vals wr hR hp K hK
      dsimp only at hK ⊢
      obtain ⟨p9, p10, p8, -, -⟩ := hp
      replace p9 := p9 rfl
      replace p10 := p10 rfl
      replace p8 := p8 rfl
      dsimp only at p9 p10 p8
      rw [p9, p10, p8] at hK ⊢
      clear p9 p10 p8
      unfold RunsOp
      go_simp
      refine (cmpr a b ha hb H2.out _).mono ?_
      rintro e w2 ⟨rfl, o2⟩
      exact hK.out _ _ ⟨_, rfl, o2, rfl⟩
    · intro vals wr hR hp K hK
      dsimp only at hK ⊢
      obtain ⟨p8, -⟩ := hp
      replace p8 := p8 rfl
      dsimp only at p8
      rw [p8] at hK ⊢
      clear p8
      unfold RunsOp
      have tb0 := hR.blk (Blk.drew B0.out) (by simp)
      obtain ⟨c00, c01, cl0⟩ := tb0.facts2
      clear tb0
      go_simp
      exact hK.out _ _ ⟨_, rfl, Only.refl _ _, rfl⟩
    · intro vals wr hR hp K hK
      dsimp only at hK ⊢
      obtain ⟨p8, -⟩ := hp
      replace p8 := p8 rfl
      dsimp only at p8
      rw [p8] at hK ⊢
      clear p8
      unfold RunsOp
      have tb1 := hR.blk (Blk.drew B1.out) (by simp)
      obtain ⟨c10, c11, cl1⟩ := tb1.facts2
      clear tb1
      go_simp
      exact hK.out _ _ ⟨_, rfl, Only.refl _ _, rfl⟩
    · intro vals wr hR hp K hK
      dsimp only at hK ⊢
      obtain ⟨p12, p13, -, p8, -⟩ := hp
      replace p12 := p12 rfl
      replace p13 := p13 rfl
      replace p8 := p8 rfl
      dsimp only at p12 p13 p8
      rw [p12, p13, p8] at hK ⊢
      clear p12 p13 p8
      unfold RunsOp
      go_simp
      refine (refcmpr a b ha hb H2.out _).mono ?_
      rintro e w2 ⟨rfl, o2⟩
      exact hK.out _ _ ⟨_, rfl, o2, rfl⟩
    · intro vals wr hR hp K hK
      dsimp only at hK ⊢
      obtain ⟨p11, p14, p8, -⟩ := hp
      replace p11 := p11 rfl
      replace p14 := p14 rfl
      replace p8 := p8 rfl
      dsimp only at p11 p14 p8
      obtain p11 := p11
      obtain p14 := p14
      rw [p11, p14, p8] at hK ⊢
      clear p11 p14 p8
      unfold RunsOp
      go_simp
      exact hK.out _ _ ⟨_, rfl, Only.refl _ _, rfl⟩
    · intro vals wr hR hp K hK
      dsimp only at hK ⊢
      obtain ⟨p8, p15, -⟩ := hp
      replace p8 := p8 rfl
      replace p15 := p15 rfl
      dsimp only at p8 p15
      rw [p8, p15] at hK ⊢
      clear p8 p15
      unfold RunsOp
      go_simp
      exact hK.out _ _ ⟨_, rfl, Only.refl _ _, rfl⟩
  case done =>
    intro vals wd hR hF
    have f16 : vals 16 = .bool true := hF 16 (by decide)
    rw [f16]
    have O9 := Lib.hid (Only.trans (O0.out.drew) hR (by simp))
    clear hF f16 hR B0 B1
    go_wp2_with (fail)
    go_ret
    exact ⟨rfl, O9.out⟩

theorem asks_any (a b : Tm) (ha : a.ok) (hb : b.ok) (w : World) :
    Calls Tryd.prog 3 #[.agg #[.int .i64 a.1, .int .i64 a.2], .agg #[.int .i64 b.1, .int .i64 b.2]] w fun r w' => r = .returned (.bool true) ∧ Only [] w w' :=
  asks_all a b ha hb rfl rfl w
end Go.Proofs.YtgfmahfdkiblbaaDoor
