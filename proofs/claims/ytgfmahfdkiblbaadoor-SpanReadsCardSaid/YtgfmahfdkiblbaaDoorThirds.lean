/- SpanThirds, SpanBack, SpanOrders: the laws' own walks. -/
import Derived.Test.YtgfmahfdkiblbaaDoorAwake
namespace Go.Proofs.YtgfmahfdkiblbaaDoor
open Go.RowKit Go.Kx
set_option maxRecDepth 20000

theorem addr (a b : Tm) (ha : a.ok) (hb : b.ok) {s : Tm} {e : Int} (h : addT a b = (s, e)) (w : World) :
    Calls Tryd.prog 23 #[.agg #[.int .i64 a.1, .int .i64 a.2], .agg #[.int .i64 b.1, .int .i64 b.2]] w fun r w' => r = .returned (.tuple #[.agg #[.int .i64 s.1, .int .i64 s.2], .int .i64 e]) ∧ Only [] w w' := by
  have := add_any a b ha hb w
  rwa [h] at this
theorem subr (a b : Tm) (ha : a.ok) (hb : b.ok) {s : Tm} {e : Int} (h : subT a b = (s, e)) (w : World) :
    Calls Tryd.prog 24 #[.agg #[.int .i64 a.1, .int .i64 a.2], .agg #[.int .i64 b.1, .int .i64 b.2]] w fun r w' => r = .returned (.tuple #[.agg #[.int .i64 s.1, .int .i64 s.2], .int .i64 e]) ∧ Only [] w w' := by
  have := sub_any a b ha hb w
  rwa [h] at this

set_option maxHeartbeats 2000000 in
theorem thirds_e (a b c x y : Tm) (e f : Int) (ha : a.ok) (hb : b.ok) (hc : c.ok) (h1 : addT a b = (x, e)) (h2 : addT b c = (y, f)) (he : e ≠ 0) (w : World) :
    Calls Tryd.prog 8 #[.agg #[.int .i64 a.1, .int .i64 a.2], .agg #[.int .i64 b.1, .int .i64 b.2], .agg #[.int .i64 c.1, .int .i64 c.2]] w fun r w' => r = .returned (.bool true) ∧ Only [] w w' := by
  have he' : (e != 0) = true := by simpa using he
  clear he
  have H1 := Lib.hid h1
  have H2 := Lib.hid h2
  clear h1 h2
  have O0 := Lib.hid (Only.refl [] w)
  go_enter Tryd.func8, Tryd.ntmps8
  go_wp2_with (fail)
  refine (addr a b ha hb H1.out _).mono ?_
  rintro e w1 ⟨rfl, o⟩
  have B0n : Blk (w.alloc (.cells #[.int .i64 a.1, .int .i64 a.2] 23)) (w.heap.size) 23 #[.int .i64 a.1, .int .i64 a.2] := by have h := Blk.new w 23 #[.int .i64 a.1, .int .i64 a.2]; simpa using h
  have B1n : Blk ((w.alloc (.cells #[.int .i64 a.1, .int .i64 a.2] 23)).alloc (.cells #[.int .i64 b.1, .int .i64 b.2] 23)) (w.heap.size + 1) 23 #[.int .i64 b.1, .int .i64 b.2] := by have h := Blk.new (w.alloc (.cells #[.int .i64 a.1, .int .i64 a.2] 23)) 23 #[.int .i64 b.1, .int .i64 b.2]; simpa using h
  have B2n : Blk (((w.alloc (.cells #[.int .i64 a.1, .int .i64 a.2] 23)).alloc (.cells #[.int .i64 b.1, .int .i64 b.2] 23)).alloc (.cells #[.int .i64 c.1, .int .i64 c.2] 23)) (w.heap.size + 2) 23 #[.int .i64 c.1, .int .i64 c.2] := by have h := Blk.new ((w.alloc (.cells #[.int .i64 a.1, .int .i64 a.2] 23)).alloc (.cells #[.int .i64 b.1, .int .i64 b.2] 23)) 23 #[.int .i64 c.1, .int .i64 c.2]; simpa using h
  have B0x := o.blk (t := 23) (cs := #[.int .i64 a.1, .int .i64 a.2]) (g := w.heap.size) (by first | exact ((B0n.alloc _).alloc _) | exact Blk.drewN ((B0n.alloc _).alloc _) _ | exact Blk.drew ((B0n.alloc _).alloc _)) (by simp)
  have B1x := o.blk (t := 23) (cs := #[.int .i64 b.1, .int .i64 b.2]) (g := w.heap.size + 1) (by first | exact (B1n.alloc _) | exact Blk.drewN (B1n.alloc _) _ | exact Blk.drew (B1n.alloc _)) (by simp)
  have B2x := o.blk (t := 23) (cs := #[.int .i64 c.1, .int .i64 c.2]) (g := w.heap.size + 2) (by first | exact B2n | exact Blk.drewN B2n _ | exact Blk.drew B2n) (by simp)
  have O1x : Only [] w w1 := by first | exact Only.trans (((O0.out.alloc _).alloc _).alloc _) o (by simp) | exact Only.trans (Only.drewN (((O0.out.alloc _).alloc _).alloc _) _) o (by simp) | exact Only.trans (Only.drew (((O0.out.alloc _).alloc _).alloc _)) o (by simp)
  have B0c0 := B0x.cell 0
  have B0c1 := B0x.cell 1
  have B0l := B0x.lt
  simp at B0c0 B0c1
  have B1c0 := B1x.cell 0
  have B1c1 := B1x.cell 1
  have B1l := B1x.lt
  simp at B1c0 B1c1
  have B2c0 := B2x.cell 0
  have B2c1 := B2x.cell 1
  have B2l := B2x.lt
  simp at B2c0 B2c1
  clear B0n B1n B2n
  have B0 := Lib.hid B0x
  have B1 := Lib.hid B1x
  have B2 := Lib.hid B2x
  clear B0x B1x B2x
  have O1 := Lib.hid O1x
  clear O0 O1x o
  go_wp2_with (fail)
  refine (addr b c hb hc H2.out _).mono ?_
  rintro e w2 ⟨rfl, o⟩
  have B3n : Blk (w1.alloc (.cells #[.int .i64 x.1, .int .i64 x.2] 23)) (w1.heap.size) 23 #[.int .i64 x.1, .int .i64 x.2] := by have h := Blk.new w1 23 #[.int .i64 x.1, .int .i64 x.2]; simpa using h
  have B0x := o.blk (t := 23) (cs := #[.int .i64 a.1, .int .i64 a.2]) (g := w.heap.size) (by first | exact (B0.out.alloc _) | exact Blk.drewN (B0.out.alloc _) _ | exact Blk.drew (B0.out.alloc _)) (by simp)
  have B1x := o.blk (t := 23) (cs := #[.int .i64 b.1, .int .i64 b.2]) (g := w.heap.size + 1) (by first | exact (B1.out.alloc _) | exact Blk.drewN (B1.out.alloc _) _ | exact Blk.drew (B1.out.alloc _)) (by simp)
  have B2x := o.blk (t := 23) (cs := #[.int .i64 c.1, .int .i64 c.2]) (g := w.heap.size + 2) (by first | exact (B2.out.alloc _) | exact Blk.drewN (B2.out.alloc _) _ | exact Blk.drew (B2.out.alloc _)) (by simp)
  have B3x := o.blk (t := 23) (cs := #[.int .i64 x.1, .int .i64 x.2]) (g := w1.heap.size) (by first | exact B3n | exact Blk.drewN B3n _ | exact Blk.drew B3n) (by simp)
  have O2x : Only [] w w2 := by first | exact Only.trans (O1.out.alloc _) o (by simp) | exact Only.trans (Only.drewN (O1.out.alloc _) _) o (by simp) | exact Only.trans (Only.drew (O1.out.alloc _)) o (by simp)
  have B0c0 := B0x.cell 0
  have B0c1 := B0x.cell 1
  have B0l := B0x.lt
  simp at B0c0 B0c1
  have B1c0 := B1x.cell 0
  have B1c1 := B1x.cell 1
  have B1l := B1x.lt
  simp at B1c0 B1c1
  have B2c0 := B2x.cell 0
  have B2c1 := B2x.cell 1
  have B2l := B2x.lt
  simp at B2c0 B2c1
  have B3c0 := B3x.cell 0
  have B3c1 := B3x.cell 1
  have B3l := B3x.lt
  simp at B3c0 B3c1
  clear B0
  clear B1
  clear B2
  clear B3n
  have B0 := Lib.hid B0x
  have B1 := Lib.hid B1x
  have B2 := Lib.hid B2x
  have B3 := Lib.hid B3x
  clear B0x B1x B2x B3x
  have O2 := Lib.hid O2x
  clear O1 O2x o
  go_wp2_with (fail)
  refine (awake_any _).mono ?_
  rintro e w3 ⟨rfl, o⟩
  have B4n : Blk (w2.alloc (.cells #[.int .i64 y.1, .int .i64 y.2] 23)) (w2.heap.size) 23 #[.int .i64 y.1, .int .i64 y.2] := by have h := Blk.new w2 23 #[.int .i64 y.1, .int .i64 y.2]; simpa using h
  have B0x := o.blk (t := 23) (cs := #[.int .i64 a.1, .int .i64 a.2]) (g := w.heap.size) (by first | exact (B0.out.alloc _) | exact Blk.drewN (B0.out.alloc _) _ | exact Blk.drew (B0.out.alloc _)) (by simp)
  have B1x := o.blk (t := 23) (cs := #[.int .i64 b.1, .int .i64 b.2]) (g := w.heap.size + 1) (by first | exact (B1.out.alloc _) | exact Blk.drewN (B1.out.alloc _) _ | exact Blk.drew (B1.out.alloc _)) (by simp)
  have B2x := o.blk (t := 23) (cs := #[.int .i64 c.1, .int .i64 c.2]) (g := w.heap.size + 2) (by first | exact (B2.out.alloc _) | exact Blk.drewN (B2.out.alloc _) _ | exact Blk.drew (B2.out.alloc _)) (by simp)
  have B3x := o.blk (t := 23) (cs := #[.int .i64 x.1, .int .i64 x.2]) (g := w1.heap.size) (by first | exact (B3.out.alloc _) | exact Blk.drewN (B3.out.alloc _) _ | exact Blk.drew (B3.out.alloc _)) (by simp)
  have B4x := o.blk (t := 23) (cs := #[.int .i64 y.1, .int .i64 y.2]) (g := w2.heap.size) (by first | exact B4n | exact Blk.drewN B4n _ | exact Blk.drew B4n) (by simp)
  have O3x : Only [] w w3 := by first | exact Only.trans (O2.out.alloc _) o (by simp) | exact Only.trans (Only.drewN (O2.out.alloc _) _) o (by simp) | exact Only.trans (Only.drew (O2.out.alloc _)) o (by simp)
  have B0c0 := B0x.cell 0
  have B0c1 := B0x.cell 1
  have B0l := B0x.lt
  simp at B0c0 B0c1
  have B1c0 := B1x.cell 0
  have B1c1 := B1x.cell 1
  have B1l := B1x.lt
  simp at B1c0 B1c1
  have B2c0 := B2x.cell 0
  have B2c1 := B2x.cell 1
  have B2l := B2x.lt
  simp at B2c0 B2c1
  have B3c0 := B3x.cell 0
  have B3c1 := B3x.cell 1
  have B3l := B3x.lt
  simp at B3c0 B3c1
  have B4c0 := B4x.cell 0
  have B4c1 := B4x.cell 1
  have B4l := B4x.lt
  simp at B4c0 B4c1
  clear B0
  clear B1
  clear B2
  clear B3
  clear B4n
  have B0 := Lib.hid B0x
  have B1 := Lib.hid B1x
  have B2 := Lib.hid B2x
  have B3 := Lib.hid B3x
  have B4 := Lib.hid B4x
  clear B0x B1x B2x B3x B4x
  have O3 := Lib.hid O3x
  clear O2 O3x o
  go_wp2_with (fail)
  refine (awake_any _).mono ?_
  rintro e w4 ⟨rfl, o⟩
  have B0x := o.blk (t := 23) (cs := #[.int .i64 a.1, .int .i64 a.2]) (g := w.heap.size) (by first | exact B0.out | exact Blk.drewN B0.out _ | exact Blk.drew B0.out) (by simp)
  have B1x := o.blk (t := 23) (cs := #[.int .i64 b.1, .int .i64 b.2]) (g := w.heap.size + 1) (by first | exact B1.out | exact Blk.drewN B1.out _ | exact Blk.drew B1.out) (by simp)
  have B2x := o.blk (t := 23) (cs := #[.int .i64 c.1, .int .i64 c.2]) (g := w.heap.size + 2) (by first | exact B2.out | exact Blk.drewN B2.out _ | exact Blk.drew B2.out) (by simp)
  have B3x := o.blk (t := 23) (cs := #[.int .i64 x.1, .int .i64 x.2]) (g := w1.heap.size) (by first | exact B3.out | exact Blk.drewN B3.out _ | exact Blk.drew B3.out) (by simp)
  have B4x := o.blk (t := 23) (cs := #[.int .i64 y.1, .int .i64 y.2]) (g := w2.heap.size) (by first | exact B4.out | exact Blk.drewN B4.out _ | exact Blk.drew B4.out) (by simp)
  have O4x : Only [] w w4 := by first | exact Only.trans O3.out o (by simp) | exact Only.trans (Only.drewN O3.out _) o (by simp) | exact Only.trans (Only.drew O3.out) o (by simp)
  have B0c0 := B0x.cell 0
  have B0c1 := B0x.cell 1
  have B0l := B0x.lt
  simp at B0c0 B0c1
  have B1c0 := B1x.cell 0
  have B1c1 := B1x.cell 1
  have B1l := B1x.lt
  simp at B1c0 B1c1
  have B2c0 := B2x.cell 0
  have B2c1 := B2x.cell 1
  have B2l := B2x.lt
  simp at B2c0 B2c1
  have B3c0 := B3x.cell 0
  have B3c1 := B3x.cell 1
  have B3l := B3x.lt
  simp at B3c0 B3c1
  have B4c0 := B4x.cell 0
  have B4c1 := B4x.cell 1
  have B4l := B4x.lt
  simp at B4c0 B4c1
  clear B0
  clear B1
  clear B2
  clear B3
  clear B4
  have B0 := Lib.hid B0x
  have B1 := Lib.hid B1x
  have B2 := Lib.hid B2x
  have B3 := Lib.hid B3x
  have B4 := Lib.hid B4x
  clear B0x B1x B2x B3x B4x
  have O4 := Lib.hid O4x
  clear O3 O4x o
  go_wp2_with (fail)
  go_ret
  exact ⟨rfl, O4.out⟩

set_option maxHeartbeats 2000000 in
theorem thirds_f (a b c x y : Tm) (e f : Int) (ha : a.ok) (hb : b.ok) (hc : c.ok) (h1 : addT a b = (x, e)) (h2 : addT b c = (y, f)) (he : e = 0) (hf : f ≠ 0) (w : World) :
    Calls Tryd.prog 8 #[.agg #[.int .i64 a.1, .int .i64 a.2], .agg #[.int .i64 b.1, .int .i64 b.2], .agg #[.int .i64 c.1, .int .i64 c.2]] w fun r w' => r = .returned (.bool true) ∧ Only [] w w' := by
  subst he
  have hf' : (f != 0) = true := by simpa using hf
  clear hf
  have H1 := Lib.hid h1
  have H2 := Lib.hid h2
  clear h1 h2
  have O0 := Lib.hid (Only.refl [] w)
  go_enter Tryd.func8, Tryd.ntmps8
  go_wp2_with (fail)
  refine (addr a b ha hb H1.out _).mono ?_
  rintro e w1 ⟨rfl, o⟩
  have B0n : Blk (w.alloc (.cells #[.int .i64 a.1, .int .i64 a.2] 23)) (w.heap.size) 23 #[.int .i64 a.1, .int .i64 a.2] := by have h := Blk.new w 23 #[.int .i64 a.1, .int .i64 a.2]; simpa using h
  have B1n : Blk ((w.alloc (.cells #[.int .i64 a.1, .int .i64 a.2] 23)).alloc (.cells #[.int .i64 b.1, .int .i64 b.2] 23)) (w.heap.size + 1) 23 #[.int .i64 b.1, .int .i64 b.2] := by have h := Blk.new (w.alloc (.cells #[.int .i64 a.1, .int .i64 a.2] 23)) 23 #[.int .i64 b.1, .int .i64 b.2]; simpa using h
  have B2n : Blk (((w.alloc (.cells #[.int .i64 a.1, .int .i64 a.2] 23)).alloc (.cells #[.int .i64 b.1, .int .i64 b.2] 23)).alloc (.cells #[.int .i64 c.1, .int .i64 c.2] 23)) (w.heap.size + 2) 23 #[.int .i64 c.1, .int .i64 c.2] := by have h := Blk.new ((w.alloc (.cells #[.int .i64 a.1, .int .i64 a.2] 23)).alloc (.cells #[.int .i64 b.1, .int .i64 b.2] 23)) 23 #[.int .i64 c.1, .int .i64 c.2]; simpa using h
  have B0x := o.blk (t := 23) (cs := #[.int .i64 a.1, .int .i64 a.2]) (g := w.heap.size) (by first | exact ((B0n.alloc _).alloc _) | exact Blk.drewN ((B0n.alloc _).alloc _) _ | exact Blk.drew ((B0n.alloc _).alloc _)) (by simp)
  have B1x := o.blk (t := 23) (cs := #[.int .i64 b.1, .int .i64 b.2]) (g := w.heap.size + 1) (by first | exact (B1n.alloc _) | exact Blk.drewN (B1n.alloc _) _ | exact Blk.drew (B1n.alloc _)) (by simp)
  have B2x := o.blk (t := 23) (cs := #[.int .i64 c.1, .int .i64 c.2]) (g := w.heap.size + 2) (by first | exact B2n | exact Blk.drewN B2n _ | exact Blk.drew B2n) (by simp)
  have O1x : Only [] w w1 := by first | exact Only.trans (((O0.out.alloc _).alloc _).alloc _) o (by simp) | exact Only.trans (Only.drewN (((O0.out.alloc _).alloc _).alloc _) _) o (by simp) | exact Only.trans (Only.drew (((O0.out.alloc _).alloc _).alloc _)) o (by simp)
  have B0c0 := B0x.cell 0
  have B0c1 := B0x.cell 1
  have B0l := B0x.lt
  simp at B0c0 B0c1
  have B1c0 := B1x.cell 0
  have B1c1 := B1x.cell 1
  have B1l := B1x.lt
  simp at B1c0 B1c1
  have B2c0 := B2x.cell 0
  have B2c1 := B2x.cell 1
  have B2l := B2x.lt
  simp at B2c0 B2c1
  clear B0n B1n B2n
  have B0 := Lib.hid B0x
  have B1 := Lib.hid B1x
  have B2 := Lib.hid B2x
  clear B0x B1x B2x
  have O1 := Lib.hid O1x
  clear O0 O1x o
  go_wp2_with (fail)
  refine (addr b c hb hc H2.out _).mono ?_
  rintro e w2 ⟨rfl, o⟩
  have B3n : Blk (w1.alloc (.cells #[.int .i64 x.1, .int .i64 x.2] 23)) (w1.heap.size) 23 #[.int .i64 x.1, .int .i64 x.2] := by have h := Blk.new w1 23 #[.int .i64 x.1, .int .i64 x.2]; simpa using h
  have B0x := o.blk (t := 23) (cs := #[.int .i64 a.1, .int .i64 a.2]) (g := w.heap.size) (by first | exact (B0.out.alloc _) | exact Blk.drewN (B0.out.alloc _) _ | exact Blk.drew (B0.out.alloc _)) (by simp)
  have B1x := o.blk (t := 23) (cs := #[.int .i64 b.1, .int .i64 b.2]) (g := w.heap.size + 1) (by first | exact (B1.out.alloc _) | exact Blk.drewN (B1.out.alloc _) _ | exact Blk.drew (B1.out.alloc _)) (by simp)
  have B2x := o.blk (t := 23) (cs := #[.int .i64 c.1, .int .i64 c.2]) (g := w.heap.size + 2) (by first | exact (B2.out.alloc _) | exact Blk.drewN (B2.out.alloc _) _ | exact Blk.drew (B2.out.alloc _)) (by simp)
  have B3x := o.blk (t := 23) (cs := #[.int .i64 x.1, .int .i64 x.2]) (g := w1.heap.size) (by first | exact B3n | exact Blk.drewN B3n _ | exact Blk.drew B3n) (by simp)
  have O2x : Only [] w w2 := by first | exact Only.trans (O1.out.alloc _) o (by simp) | exact Only.trans (Only.drewN (O1.out.alloc _) _) o (by simp) | exact Only.trans (Only.drew (O1.out.alloc _)) o (by simp)
  have B0c0 := B0x.cell 0
  have B0c1 := B0x.cell 1
  have B0l := B0x.lt
  simp at B0c0 B0c1
  have B1c0 := B1x.cell 0
  have B1c1 := B1x.cell 1
  have B1l := B1x.lt
  simp at B1c0 B1c1
  have B2c0 := B2x.cell 0
  have B2c1 := B2x.cell 1
  have B2l := B2x.lt
  simp at B2c0 B2c1
  have B3c0 := B3x.cell 0
  have B3c1 := B3x.cell 1
  have B3l := B3x.lt
  simp at B3c0 B3c1
  clear B0
  clear B1
  clear B2
  clear B3n
  have B0 := Lib.hid B0x
  have B1 := Lib.hid B1x
  have B2 := Lib.hid B2x
  have B3 := Lib.hid B3x
  clear B0x B1x B2x B3x
  have O2 := Lib.hid O2x
  clear O1 O2x o
  go_wp2_with (fail)
  refine (awake_any _).mono ?_
  rintro e w3 ⟨rfl, o⟩
  have B4n : Blk (w2.alloc (.cells #[.int .i64 y.1, .int .i64 y.2] 23)) (w2.heap.size) 23 #[.int .i64 y.1, .int .i64 y.2] := by have h := Blk.new w2 23 #[.int .i64 y.1, .int .i64 y.2]; simpa using h
  have B0x := o.blk (t := 23) (cs := #[.int .i64 a.1, .int .i64 a.2]) (g := w.heap.size) (by first | exact (B0.out.alloc _) | exact Blk.drewN (B0.out.alloc _) _ | exact Blk.drew (B0.out.alloc _)) (by simp)
  have B1x := o.blk (t := 23) (cs := #[.int .i64 b.1, .int .i64 b.2]) (g := w.heap.size + 1) (by first | exact (B1.out.alloc _) | exact Blk.drewN (B1.out.alloc _) _ | exact Blk.drew (B1.out.alloc _)) (by simp)
  have B2x := o.blk (t := 23) (cs := #[.int .i64 c.1, .int .i64 c.2]) (g := w.heap.size + 2) (by first | exact (B2.out.alloc _) | exact Blk.drewN (B2.out.alloc _) _ | exact Blk.drew (B2.out.alloc _)) (by simp)
  have B3x := o.blk (t := 23) (cs := #[.int .i64 x.1, .int .i64 x.2]) (g := w1.heap.size) (by first | exact (B3.out.alloc _) | exact Blk.drewN (B3.out.alloc _) _ | exact Blk.drew (B3.out.alloc _)) (by simp)
  have B4x := o.blk (t := 23) (cs := #[.int .i64 y.1, .int .i64 y.2]) (g := w2.heap.size) (by first | exact B4n | exact Blk.drewN B4n _ | exact Blk.drew B4n) (by simp)
  have O3x : Only [] w w3 := by first | exact Only.trans (O2.out.alloc _) o (by simp) | exact Only.trans (Only.drewN (O2.out.alloc _) _) o (by simp) | exact Only.trans (Only.drew (O2.out.alloc _)) o (by simp)
  have B0c0 := B0x.cell 0
  have B0c1 := B0x.cell 1
  have B0l := B0x.lt
  simp at B0c0 B0c1
  have B1c0 := B1x.cell 0
  have B1c1 := B1x.cell 1
  have B1l := B1x.lt
  simp at B1c0 B1c1
  have B2c0 := B2x.cell 0
  have B2c1 := B2x.cell 1
  have B2l := B2x.lt
  simp at B2c0 B2c1
  have B3c0 := B3x.cell 0
  have B3c1 := B3x.cell 1
  have B3l := B3x.lt
  simp at B3c0 B3c1
  have B4c0 := B4x.cell 0
  have B4c1 := B4x.cell 1
  have B4l := B4x.lt
  simp at B4c0 B4c1
  clear B0
  clear B1
  clear B2
  clear B3
  clear B4n
  have B0 := Lib.hid B0x
  have B1 := Lib.hid B1x
  have B2 := Lib.hid B2x
  have B3 := Lib.hid B3x
  have B4 := Lib.hid B4x
  clear B0x B1x B2x B3x B4x
  have O3 := Lib.hid O3x
  clear O2 O3x o
  go_wp2_with (fail)
  refine (awake_any _).mono ?_
  rintro e w4 ⟨rfl, o⟩
  have B0x := o.blk (t := 23) (cs := #[.int .i64 a.1, .int .i64 a.2]) (g := w.heap.size) (by first | exact B0.out | exact Blk.drewN B0.out _ | exact Blk.drew B0.out) (by simp)
  have B1x := o.blk (t := 23) (cs := #[.int .i64 b.1, .int .i64 b.2]) (g := w.heap.size + 1) (by first | exact B1.out | exact Blk.drewN B1.out _ | exact Blk.drew B1.out) (by simp)
  have B2x := o.blk (t := 23) (cs := #[.int .i64 c.1, .int .i64 c.2]) (g := w.heap.size + 2) (by first | exact B2.out | exact Blk.drewN B2.out _ | exact Blk.drew B2.out) (by simp)
  have B3x := o.blk (t := 23) (cs := #[.int .i64 x.1, .int .i64 x.2]) (g := w1.heap.size) (by first | exact B3.out | exact Blk.drewN B3.out _ | exact Blk.drew B3.out) (by simp)
  have B4x := o.blk (t := 23) (cs := #[.int .i64 y.1, .int .i64 y.2]) (g := w2.heap.size) (by first | exact B4.out | exact Blk.drewN B4.out _ | exact Blk.drew B4.out) (by simp)
  have O4x : Only [] w w4 := by first | exact Only.trans O3.out o (by simp) | exact Only.trans (Only.drewN O3.out _) o (by simp) | exact Only.trans (Only.drew O3.out) o (by simp)
  have B0c0 := B0x.cell 0
  have B0c1 := B0x.cell 1
  have B0l := B0x.lt
  simp at B0c0 B0c1
  have B1c0 := B1x.cell 0
  have B1c1 := B1x.cell 1
  have B1l := B1x.lt
  simp at B1c0 B1c1
  have B2c0 := B2x.cell 0
  have B2c1 := B2x.cell 1
  have B2l := B2x.lt
  simp at B2c0 B2c1
  have B3c0 := B3x.cell 0
  have B3c1 := B3x.cell 1
  have B3l := B3x.lt
  simp at B3c0 B3c1
  have B4c0 := B4x.cell 0
  have B4c1 := B4x.cell 1
  have B4l := B4x.lt
  simp at B4c0 B4c1
  clear B0
  clear B1
  clear B2
  clear B3
  clear B4
  have B0 := Lib.hid B0x
  have B1 := Lib.hid B1x
  have B2 := Lib.hid B2x
  have B3 := Lib.hid B3x
  have B4 := Lib.hid B4x
  clear B0x B1x B2x B3x B4x
  have O4 := Lib.hid O4x
  clear O3 O4x o
  go_wp2_with (fail)
  go_ret
  exact ⟨rfl, O4.out⟩

set_option maxHeartbeats 2000000 in
theorem thirds_ok (a b c x y : Tm) (e f : Int) (ha : a.ok) (hb : b.ok) (hc : c.ok) (h1 : addT a b = (x, e)) (h2 : addT b c = (y, f)) (he : e = 0) (hf : f = 0) {s : Tm} {g : Int} (h3 : addT x c = (s, g)) (h4 : addT a y = (s, g)) (hx : x.ok) (hy : y.ok) (w : World) :
    Calls Tryd.prog 8 #[.agg #[.int .i64 a.1, .int .i64 a.2], .agg #[.int .i64 b.1, .int .i64 b.2], .agg #[.int .i64 c.1, .int .i64 c.2]] w fun r w' => r = .returned (.bool true) ∧ Only [] w w' := by
  subst he hf
  have H1 := Lib.hid h1
  have H2 := Lib.hid h2
  clear h1 h2
  have H3 := Lib.hid h3
  have H4 := Lib.hid h4
  clear h3 h4
  have O0 := Lib.hid (Only.refl [] w)
  go_enter Tryd.func8, Tryd.ntmps8
  go_wp2_with (fail)
  refine (addr a b ha hb H1.out _).mono ?_
  rintro e w1 ⟨rfl, o⟩
  have B0n : Blk (w.alloc (.cells #[.int .i64 a.1, .int .i64 a.2] 23)) (w.heap.size) 23 #[.int .i64 a.1, .int .i64 a.2] := by have h := Blk.new w 23 #[.int .i64 a.1, .int .i64 a.2]; simpa using h
  have B1n : Blk ((w.alloc (.cells #[.int .i64 a.1, .int .i64 a.2] 23)).alloc (.cells #[.int .i64 b.1, .int .i64 b.2] 23)) (w.heap.size + 1) 23 #[.int .i64 b.1, .int .i64 b.2] := by have h := Blk.new (w.alloc (.cells #[.int .i64 a.1, .int .i64 a.2] 23)) 23 #[.int .i64 b.1, .int .i64 b.2]; simpa using h
  have B2n : Blk (((w.alloc (.cells #[.int .i64 a.1, .int .i64 a.2] 23)).alloc (.cells #[.int .i64 b.1, .int .i64 b.2] 23)).alloc (.cells #[.int .i64 c.1, .int .i64 c.2] 23)) (w.heap.size + 2) 23 #[.int .i64 c.1, .int .i64 c.2] := by have h := Blk.new ((w.alloc (.cells #[.int .i64 a.1, .int .i64 a.2] 23)).alloc (.cells #[.int .i64 b.1, .int .i64 b.2] 23)) 23 #[.int .i64 c.1, .int .i64 c.2]; simpa using h
  have B0x := o.blk (t := 23) (cs := #[.int .i64 a.1, .int .i64 a.2]) (g := w.heap.size) (by first | exact ((B0n.alloc _).alloc _) | exact Blk.drewN ((B0n.alloc _).alloc _) _ | exact Blk.drew ((B0n.alloc _).alloc _)) (by simp)
  have B1x := o.blk (t := 23) (cs := #[.int .i64 b.1, .int .i64 b.2]) (g := w.heap.size + 1) (by first | exact (B1n.alloc _) | exact Blk.drewN (B1n.alloc _) _ | exact Blk.drew (B1n.alloc _)) (by simp)
  have B2x := o.blk (t := 23) (cs := #[.int .i64 c.1, .int .i64 c.2]) (g := w.heap.size + 2) (by first | exact B2n | exact Blk.drewN B2n _ | exact Blk.drew B2n) (by simp)
  have O1x : Only [] w w1 := by first | exact Only.trans (((O0.out.alloc _).alloc _).alloc _) o (by simp) | exact Only.trans (Only.drewN (((O0.out.alloc _).alloc _).alloc _) _) o (by simp) | exact Only.trans (Only.drew (((O0.out.alloc _).alloc _).alloc _)) o (by simp)
  have B0c0 := B0x.cell 0
  have B0c1 := B0x.cell 1
  have B0l := B0x.lt
  simp at B0c0 B0c1
  have B1c0 := B1x.cell 0
  have B1c1 := B1x.cell 1
  have B1l := B1x.lt
  simp at B1c0 B1c1
  have B2c0 := B2x.cell 0
  have B2c1 := B2x.cell 1
  have B2l := B2x.lt
  simp at B2c0 B2c1
  clear B0n B1n B2n
  have B0 := Lib.hid B0x
  have B1 := Lib.hid B1x
  have B2 := Lib.hid B2x
  clear B0x B1x B2x
  have O1 := Lib.hid O1x
  clear O0 O1x o
  go_wp2_with (fail)
  refine (addr b c hb hc H2.out _).mono ?_
  rintro e w2 ⟨rfl, o⟩
  have B3n : Blk (w1.alloc (.cells #[.int .i64 x.1, .int .i64 x.2] 23)) (w1.heap.size) 23 #[.int .i64 x.1, .int .i64 x.2] := by have h := Blk.new w1 23 #[.int .i64 x.1, .int .i64 x.2]; simpa using h
  have B0x := o.blk (t := 23) (cs := #[.int .i64 a.1, .int .i64 a.2]) (g := w.heap.size) (by first | exact (B0.out.alloc _) | exact Blk.drewN (B0.out.alloc _) _ | exact Blk.drew (B0.out.alloc _)) (by simp)
  have B1x := o.blk (t := 23) (cs := #[.int .i64 b.1, .int .i64 b.2]) (g := w.heap.size + 1) (by first | exact (B1.out.alloc _) | exact Blk.drewN (B1.out.alloc _) _ | exact Blk.drew (B1.out.alloc _)) (by simp)
  have B2x := o.blk (t := 23) (cs := #[.int .i64 c.1, .int .i64 c.2]) (g := w.heap.size + 2) (by first | exact (B2.out.alloc _) | exact Blk.drewN (B2.out.alloc _) _ | exact Blk.drew (B2.out.alloc _)) (by simp)
  have B3x := o.blk (t := 23) (cs := #[.int .i64 x.1, .int .i64 x.2]) (g := w1.heap.size) (by first | exact B3n | exact Blk.drewN B3n _ | exact Blk.drew B3n) (by simp)
  have O2x : Only [] w w2 := by first | exact Only.trans (O1.out.alloc _) o (by simp) | exact Only.trans (Only.drewN (O1.out.alloc _) _) o (by simp) | exact Only.trans (Only.drew (O1.out.alloc _)) o (by simp)
  have B0c0 := B0x.cell 0
  have B0c1 := B0x.cell 1
  have B0l := B0x.lt
  simp at B0c0 B0c1
  have B1c0 := B1x.cell 0
  have B1c1 := B1x.cell 1
  have B1l := B1x.lt
  simp at B1c0 B1c1
  have B2c0 := B2x.cell 0
  have B2c1 := B2x.cell 1
  have B2l := B2x.lt
  simp at B2c0 B2c1
  have B3c0 := B3x.cell 0
  have B3c1 := B3x.cell 1
  have B3l := B3x.lt
  simp at B3c0 B3c1
  clear B0
  clear B1
  clear B2
  clear B3n
  have B0 := Lib.hid B0x
  have B1 := Lib.hid B1x
  have B2 := Lib.hid B2x
  have B3 := Lib.hid B3x
  clear B0x B1x B2x B3x
  have O2 := Lib.hid O2x
  clear O1 O2x o
  go_wp2_with (fail)
  refine (awake_any _).mono ?_
  rintro e w3 ⟨rfl, o⟩
  have B4n : Blk (w2.alloc (.cells #[.int .i64 y.1, .int .i64 y.2] 23)) (w2.heap.size) 23 #[.int .i64 y.1, .int .i64 y.2] := by have h := Blk.new w2 23 #[.int .i64 y.1, .int .i64 y.2]; simpa using h
  have B0x := o.blk (t := 23) (cs := #[.int .i64 a.1, .int .i64 a.2]) (g := w.heap.size) (by first | exact (B0.out.alloc _) | exact Blk.drewN (B0.out.alloc _) _ | exact Blk.drew (B0.out.alloc _)) (by simp)
  have B1x := o.blk (t := 23) (cs := #[.int .i64 b.1, .int .i64 b.2]) (g := w.heap.size + 1) (by first | exact (B1.out.alloc _) | exact Blk.drewN (B1.out.alloc _) _ | exact Blk.drew (B1.out.alloc _)) (by simp)
  have B2x := o.blk (t := 23) (cs := #[.int .i64 c.1, .int .i64 c.2]) (g := w.heap.size + 2) (by first | exact (B2.out.alloc _) | exact Blk.drewN (B2.out.alloc _) _ | exact Blk.drew (B2.out.alloc _)) (by simp)
  have B3x := o.blk (t := 23) (cs := #[.int .i64 x.1, .int .i64 x.2]) (g := w1.heap.size) (by first | exact (B3.out.alloc _) | exact Blk.drewN (B3.out.alloc _) _ | exact Blk.drew (B3.out.alloc _)) (by simp)
  have B4x := o.blk (t := 23) (cs := #[.int .i64 y.1, .int .i64 y.2]) (g := w2.heap.size) (by first | exact B4n | exact Blk.drewN B4n _ | exact Blk.drew B4n) (by simp)
  have O3x : Only [] w w3 := by first | exact Only.trans (O2.out.alloc _) o (by simp) | exact Only.trans (Only.drewN (O2.out.alloc _) _) o (by simp) | exact Only.trans (Only.drew (O2.out.alloc _)) o (by simp)
  have B0c0 := B0x.cell 0
  have B0c1 := B0x.cell 1
  have B0l := B0x.lt
  simp at B0c0 B0c1
  have B1c0 := B1x.cell 0
  have B1c1 := B1x.cell 1
  have B1l := B1x.lt
  simp at B1c0 B1c1
  have B2c0 := B2x.cell 0
  have B2c1 := B2x.cell 1
  have B2l := B2x.lt
  simp at B2c0 B2c1
  have B3c0 := B3x.cell 0
  have B3c1 := B3x.cell 1
  have B3l := B3x.lt
  simp at B3c0 B3c1
  have B4c0 := B4x.cell 0
  have B4c1 := B4x.cell 1
  have B4l := B4x.lt
  simp at B4c0 B4c1
  clear B0
  clear B1
  clear B2
  clear B3
  clear B4n
  have B0 := Lib.hid B0x
  have B1 := Lib.hid B1x
  have B2 := Lib.hid B2x
  have B3 := Lib.hid B3x
  have B4 := Lib.hid B4x
  clear B0x B1x B2x B3x B4x
  have O3 := Lib.hid O3x
  clear O2 O3x o
  go_wp2_with (fail)
  refine (addr x c hx hc H3.out _).mono ?_
  rintro e w4 ⟨rfl, o⟩
  have B0x := o.blk (t := 23) (cs := #[.int .i64 a.1, .int .i64 a.2]) (g := w.heap.size) (by first | exact B0.out | exact Blk.drewN B0.out _ | exact Blk.drew B0.out) (by simp)
  have B1x := o.blk (t := 23) (cs := #[.int .i64 b.1, .int .i64 b.2]) (g := w.heap.size + 1) (by first | exact B1.out | exact Blk.drewN B1.out _ | exact Blk.drew B1.out) (by simp)
  have B2x := o.blk (t := 23) (cs := #[.int .i64 c.1, .int .i64 c.2]) (g := w.heap.size + 2) (by first | exact B2.out | exact Blk.drewN B2.out _ | exact Blk.drew B2.out) (by simp)
  have B3x := o.blk (t := 23) (cs := #[.int .i64 x.1, .int .i64 x.2]) (g := w1.heap.size) (by first | exact B3.out | exact Blk.drewN B3.out _ | exact Blk.drew B3.out) (by simp)
  have B4x := o.blk (t := 23) (cs := #[.int .i64 y.1, .int .i64 y.2]) (g := w2.heap.size) (by first | exact B4.out | exact Blk.drewN B4.out _ | exact Blk.drew B4.out) (by simp)
  have O4x : Only [] w w4 := by first | exact Only.trans O3.out o (by simp) | exact Only.trans (Only.drewN O3.out _) o (by simp) | exact Only.trans (Only.drew O3.out) o (by simp)
  have B0c0 := B0x.cell 0
  have B0c1 := B0x.cell 1
  have B0l := B0x.lt
  simp at B0c0 B0c1
  have B1c0 := B1x.cell 0
  have B1c1 := B1x.cell 1
  have B1l := B1x.lt
  simp at B1c0 B1c1
  have B2c0 := B2x.cell 0
  have B2c1 := B2x.cell 1
  have B2l := B2x.lt
  simp at B2c0 B2c1
  have B3c0 := B3x.cell 0
  have B3c1 := B3x.cell 1
  have B3l := B3x.lt
  simp at B3c0 B3c1
  have B4c0 := B4x.cell 0
  have B4c1 := B4x.cell 1
  have B4l := B4x.lt
  simp at B4c0 B4c1
  clear B0
  clear B1
  clear B2
  clear B3
  clear B4
  have B0 := Lib.hid B0x
  have B1 := Lib.hid B1x
  have B2 := Lib.hid B2x
  have B3 := Lib.hid B3x
  have B4 := Lib.hid B4x
  clear B0x B1x B2x B3x B4x
  have O4 := Lib.hid O4x
  clear O3 O4x o
  go_wp2_with (fail)
  refine (addr a y ha hy H4.out _).mono ?_
  rintro e w5 ⟨rfl, o⟩
  have B5n : Blk (w4.alloc (.cells #[.int .i64 s.1, .int .i64 s.2] 23)) (w4.heap.size) 23 #[.int .i64 s.1, .int .i64 s.2] := by have h := Blk.new w4 23 #[.int .i64 s.1, .int .i64 s.2]; simpa using h
  have B0x := o.blk (t := 23) (cs := #[.int .i64 a.1, .int .i64 a.2]) (g := w.heap.size) (by first | exact (B0.out.alloc _) | exact Blk.drewN (B0.out.alloc _) _ | exact Blk.drew (B0.out.alloc _)) (by simp)
  have B1x := o.blk (t := 23) (cs := #[.int .i64 b.1, .int .i64 b.2]) (g := w.heap.size + 1) (by first | exact (B1.out.alloc _) | exact Blk.drewN (B1.out.alloc _) _ | exact Blk.drew (B1.out.alloc _)) (by simp)
  have B2x := o.blk (t := 23) (cs := #[.int .i64 c.1, .int .i64 c.2]) (g := w.heap.size + 2) (by first | exact (B2.out.alloc _) | exact Blk.drewN (B2.out.alloc _) _ | exact Blk.drew (B2.out.alloc _)) (by simp)
  have B3x := o.blk (t := 23) (cs := #[.int .i64 x.1, .int .i64 x.2]) (g := w1.heap.size) (by first | exact (B3.out.alloc _) | exact Blk.drewN (B3.out.alloc _) _ | exact Blk.drew (B3.out.alloc _)) (by simp)
  have B4x := o.blk (t := 23) (cs := #[.int .i64 y.1, .int .i64 y.2]) (g := w2.heap.size) (by first | exact (B4.out.alloc _) | exact Blk.drewN (B4.out.alloc _) _ | exact Blk.drew (B4.out.alloc _)) (by simp)
  have B5x := o.blk (t := 23) (cs := #[.int .i64 s.1, .int .i64 s.2]) (g := w4.heap.size) (by first | exact B5n | exact Blk.drewN B5n _ | exact Blk.drew B5n) (by simp)
  have O5x : Only [] w w5 := by first | exact Only.trans (O4.out.alloc _) o (by simp) | exact Only.trans (Only.drewN (O4.out.alloc _) _) o (by simp) | exact Only.trans (Only.drew (O4.out.alloc _)) o (by simp)
  have B0c0 := B0x.cell 0
  have B0c1 := B0x.cell 1
  have B0l := B0x.lt
  simp at B0c0 B0c1
  have B1c0 := B1x.cell 0
  have B1c1 := B1x.cell 1
  have B1l := B1x.lt
  simp at B1c0 B1c1
  have B2c0 := B2x.cell 0
  have B2c1 := B2x.cell 1
  have B2l := B2x.lt
  simp at B2c0 B2c1
  have B3c0 := B3x.cell 0
  have B3c1 := B3x.cell 1
  have B3l := B3x.lt
  simp at B3c0 B3c1
  have B4c0 := B4x.cell 0
  have B4c1 := B4x.cell 1
  have B4l := B4x.lt
  simp at B4c0 B4c1
  have B5c0 := B5x.cell 0
  have B5c1 := B5x.cell 1
  have B5l := B5x.lt
  simp at B5c0 B5c1
  clear B0
  clear B1
  clear B2
  clear B3
  clear B4
  clear B5n
  have B0 := Lib.hid B0x
  have B1 := Lib.hid B1x
  have B2 := Lib.hid B2x
  have B3 := Lib.hid B3x
  have B4 := Lib.hid B4x
  have B5 := Lib.hid B5x
  clear B0x B1x B2x B3x B4x B5x
  have O5 := Lib.hid O5x
  clear O4 O5x o
  go_wp2_with (fail)
  go_ret
  exact ⟨by simp, (O5.out.alloc _)⟩

theorem thirds_any (a b c : Tm) (ha : a.ok) (hb : b.ok) (hc : c.ok) (w : World) :
    Calls Tryd.prog 8 #[.agg #[.int .i64 a.1, .int .i64 a.2], .agg #[.int .i64 b.1, .int .i64 b.2], .agg #[.int .i64 c.1, .int .i64 c.2]] w fun r w' => r = .returned (.bool true) ∧ Only [] w w' := by
  by_cases h1 : (addT a b).2 = 0
  · by_cases h2 : (addT b c).2 = 0
    · refine thirds_ok a b c (addT a b).1 (addT b c).1 _ _ ha hb hc rfl rfl h1 h2 (s := (addT a (addT b c).1).1) (g := (addT a (addT b c).1).2) ?_ rfl (add_ok ha hb) (add_ok hb hc) w
      rw [add_assoc_ ha hb hc h1 h2]
    · exact thirds_f a b c _ _ _ _ ha hb hc rfl rfl h1 h2 w
  · exact thirds_e a b c _ _ _ _ ha hb hc rfl rfl h1 w

end Go.Proofs.YtgfmahfdkiblbaaDoor
