/- SpanBack: the law's own walk. -/
import Derived.Test.YtgfmahfdkiblbaaDoorThirds
namespace Go.Proofs.YtgfmahfdkiblbaaDoor
open Go.RowKit Go.Kx
set_option maxRecDepth 20000


set_option maxHeartbeats 2000000 in
theorem back_e1 (a b : Tm) (ha : a.ok) (hb : b.ok) (h1 : addT a b = ((0, 0), 1)) (w : World) :
    Calls Tryd.prog 9 #[.agg #[.int .i64 a.1, .int .i64 a.2], .agg #[.int .i64 b.1, .int .i64 b.2]] w fun r w' => r = .returned (.bool true) ∧ Only [] w w' := by
  have h2 := (add_comm_ b a).trans h1
  have H1 := Lib.hid h1
  have H2 := Lib.hid h2
  clear h1 h2
  have O0 := Lib.hid (Only.refl [] w)
  go_enter Tryd.func9, Tryd.ntmps9
  go_wp2_with (fail)
  refine (addr a b ha hb H1.out _).mono ?_
  rintro e w1 ⟨rfl, o⟩
  have B0n : Blk (w.alloc (.cells #[.int .i64 a.1, .int .i64 a.2] 23)) (w.heap.size) 23 #[.int .i64 a.1, .int .i64 a.2] := (by have h := Blk.new w 23 #[.int .i64 a.1, .int .i64 a.2]; simpa using h)
  have B1n : Blk ((w.alloc (.cells #[.int .i64 a.1, .int .i64 a.2] 23)).alloc (.cells #[.int .i64 b.1, .int .i64 b.2] 23)) (w.heap.size + 1) 23 #[.int .i64 b.1, .int .i64 b.2] := (by have h := Blk.new (w.alloc (.cells #[.int .i64 a.1, .int .i64 a.2] 23)) 23 #[.int .i64 b.1, .int .i64 b.2]; simpa using h)
  have B0x := o.blk (t := 23) (cs := #[.int .i64 a.1, .int .i64 a.2]) (g := w.heap.size) (by first | exact (B0n.alloc _) | exact Blk.drewN (B0n.alloc _) _ | exact Blk.drew (B0n.alloc _)) (by simp)
  have B1x := o.blk (t := 23) (cs := #[.int .i64 b.1, .int .i64 b.2]) (g := w.heap.size + 1) (by first | exact B1n | exact Blk.drewN B1n _ | exact Blk.drew B1n) (by simp)
  have O1x : Only [] w w1 := (by first | exact Only.trans ((O0.out.alloc _).alloc _) o (by simp) | exact Only.trans (Only.drewN ((O0.out.alloc _).alloc _) _) o (by simp) | exact Only.trans (Only.drew ((O0.out.alloc _).alloc _)) o (by simp))
  have B0c0 := B0x.cell 0
  have B0c1 := B0x.cell 1
  have B0l := B0x.lt
  simp at B0c0 B0c1
  have B1c0 := B1x.cell 0
  have B1c1 := B1x.cell 1
  have B1l := B1x.lt
  simp at B1c0 B1c1
  clear B0n B1n
  have B0 := Lib.hid B0x
  have B1 := Lib.hid B1x
  clear B0x B1x
  have O1 := Lib.hid O1x
  clear O0 O1x o
  go_wp2_with (fail)
  refine (addr b a hb ha H2.out _).mono ?_
  rintro e w2 ⟨rfl, o⟩
  have B2n : Blk (w1.alloc (.cells #[.int .i64 0, .int .i64 0] 23)) (w1.heap.size) 23 #[.int .i64 0, .int .i64 0] := (by have h := Blk.new w1 23 #[.int .i64 0, .int .i64 0]; simpa using h)
  have B0x := o.blk (t := 23) (cs := #[.int .i64 a.1, .int .i64 a.2]) (g := w.heap.size) (by first | exact (B0.out.alloc _) | exact Blk.drewN (B0.out.alloc _) _ | exact Blk.drew (B0.out.alloc _)) (by simp)
  have B1x := o.blk (t := 23) (cs := #[.int .i64 b.1, .int .i64 b.2]) (g := w.heap.size + 1) (by first | exact (B1.out.alloc _) | exact Blk.drewN (B1.out.alloc _) _ | exact Blk.drew (B1.out.alloc _)) (by simp)
  have B2x := o.blk (t := 23) (cs := #[.int .i64 0, .int .i64 0]) (g := w1.heap.size) (by first | exact B2n | exact Blk.drewN B2n _ | exact Blk.drew B2n) (by simp)
  have O2x : Only [] w w2 := (by first | exact Only.trans (O1.out.alloc _) o (by simp) | exact Only.trans (Only.drewN (O1.out.alloc _) _) o (by simp) | exact Only.trans (Only.drew (O1.out.alloc _)) o (by simp))
  have B0c0 := B0x.cell 0
  have B0c1 := B0x.cell 1
  have B0l := B0x.lt
  simp at B0c0 B0c1
  have B1c0 := B1x.cell 0
  have B1c1 := B1x.cell 1
  have B1l := B1x.lt
  simp at B1c0 B1c1
  have B2c0 := B2x.cell 0
  have B2c1 := B2x.cell 1
  have B2l := B2x.lt
  simp at B2c0 B2c1
  clear B0
  clear B1
  clear B2n
  have B0 := Lib.hid B0x
  have B1 := Lib.hid B1x
  have B2 := Lib.hid B2x
  clear B0x B1x B2x
  have O2 := Lib.hid O2x
  clear O1 O2x o
  go_wp2_with (fail)
  refine (awake_any _).mono ?_
  rintro e w3 ⟨rfl, o⟩
  have B3n : Blk (w2.alloc (.cells #[.int .i64 0, .int .i64 0] 23)) (w2.heap.size) 23 #[.int .i64 0, .int .i64 0] := (by have h := Blk.new w2 23 #[.int .i64 0, .int .i64 0]; simpa using h)
  have B0x := o.blk (t := 23) (cs := #[.int .i64 a.1, .int .i64 a.2]) (g := w.heap.size) (by first | exact (B0.out.alloc _) | exact Blk.drewN (B0.out.alloc _) _ | exact Blk.drew (B0.out.alloc _)) (by simp)
  have B1x := o.blk (t := 23) (cs := #[.int .i64 b.1, .int .i64 b.2]) (g := w.heap.size + 1) (by first | exact (B1.out.alloc _) | exact Blk.drewN (B1.out.alloc _) _ | exact Blk.drew (B1.out.alloc _)) (by simp)
  have B2x := o.blk (t := 23) (cs := #[.int .i64 0, .int .i64 0]) (g := w1.heap.size) (by first | exact (B2.out.alloc _) | exact Blk.drewN (B2.out.alloc _) _ | exact Blk.drew (B2.out.alloc _)) (by simp)
  have B3x := o.blk (t := 23) (cs := #[.int .i64 0, .int .i64 0]) (g := w2.heap.size) (by first | exact B3n | exact Blk.drewN B3n _ | exact Blk.drew B3n) (by simp)
  have O3x : Only [] w w3 := (by first | exact Only.trans (O2.out.alloc _) o (by simp) | exact Only.trans (Only.drewN (O2.out.alloc _) _) o (by simp) | exact Only.trans (Only.drew (O2.out.alloc _)) o (by simp))
  have B0c0 := B0x.cell 0
  have B0c1 := B0x.cell 1
  have B0l := B0x.lt
  simp at B0c0 B0c1
  have B1c0 := B1x.cell 0
  have B1c1 := B1x.cell 1
  have B1l := B1x.lt
  simp at B1c0 B1c1
  have B2c0 := B2x.cell 0
  have B2c1 := B2x.cell 1
  have B2l := B2x.lt
  simp at B2c0 B2c1
  have B3c0 := B3x.cell 0
  have B3c1 := B3x.cell 1
  have B3l := B3x.lt
  simp at B3c0 B3c1
  clear B0
  clear B1
  clear B2
  clear B3n
  have B0 := Lib.hid B0x
  have B1 := Lib.hid B1x
  have B2 := Lib.hid B2x
  have B3 := Lib.hid B3x
  clear B0x B1x B2x B3x
  have O3 := Lib.hid O3x
  clear O2 O3x o
  go_wp2_with (fail)
  go_ret
  exact ⟨rfl, O3.out⟩

set_option maxHeartbeats 2000000 in
theorem back_e2 (a b : Tm) (ha : a.ok) (hb : b.ok) (h1 : addT a b = ((0, 0), 2)) (w : World) :
    Calls Tryd.prog 9 #[.agg #[.int .i64 a.1, .int .i64 a.2], .agg #[.int .i64 b.1, .int .i64 b.2]] w fun r w' => r = .returned (.bool true) ∧ Only [] w w' := by
  have h2 := (add_comm_ b a).trans h1
  have H1 := Lib.hid h1
  have H2 := Lib.hid h2
  clear h1 h2
  have O0 := Lib.hid (Only.refl [] w)
  go_enter Tryd.func9, Tryd.ntmps9
  go_wp2_with (fail)
  refine (addr a b ha hb H1.out _).mono ?_
  rintro e w1 ⟨rfl, o⟩
  have B0n : Blk (w.alloc (.cells #[.int .i64 a.1, .int .i64 a.2] 23)) (w.heap.size) 23 #[.int .i64 a.1, .int .i64 a.2] := (by have h := Blk.new w 23 #[.int .i64 a.1, .int .i64 a.2]; simpa using h)
  have B1n : Blk ((w.alloc (.cells #[.int .i64 a.1, .int .i64 a.2] 23)).alloc (.cells #[.int .i64 b.1, .int .i64 b.2] 23)) (w.heap.size + 1) 23 #[.int .i64 b.1, .int .i64 b.2] := (by have h := Blk.new (w.alloc (.cells #[.int .i64 a.1, .int .i64 a.2] 23)) 23 #[.int .i64 b.1, .int .i64 b.2]; simpa using h)
  have B0x := o.blk (t := 23) (cs := #[.int .i64 a.1, .int .i64 a.2]) (g := w.heap.size) (by first | exact (B0n.alloc _) | exact Blk.drewN (B0n.alloc _) _ | exact Blk.drew (B0n.alloc _)) (by simp)
  have B1x := o.blk (t := 23) (cs := #[.int .i64 b.1, .int .i64 b.2]) (g := w.heap.size + 1) (by first | exact B1n | exact Blk.drewN B1n _ | exact Blk.drew B1n) (by simp)
  have O1x : Only [] w w1 := (by first | exact Only.trans ((O0.out.alloc _).alloc _) o (by simp) | exact Only.trans (Only.drewN ((O0.out.alloc _).alloc _) _) o (by simp) | exact Only.trans (Only.drew ((O0.out.alloc _).alloc _)) o (by simp))
  have B0c0 := B0x.cell 0
  have B0c1 := B0x.cell 1
  have B0l := B0x.lt
  simp at B0c0 B0c1
  have B1c0 := B1x.cell 0
  have B1c1 := B1x.cell 1
  have B1l := B1x.lt
  simp at B1c0 B1c1
  clear B0n B1n
  have B0 := Lib.hid B0x
  have B1 := Lib.hid B1x
  clear B0x B1x
  have O1 := Lib.hid O1x
  clear O0 O1x o
  go_wp2_with (fail)
  refine (addr b a hb ha H2.out _).mono ?_
  rintro e w2 ⟨rfl, o⟩
  have B2n : Blk (w1.alloc (.cells #[.int .i64 0, .int .i64 0] 23)) (w1.heap.size) 23 #[.int .i64 0, .int .i64 0] := (by have h := Blk.new w1 23 #[.int .i64 0, .int .i64 0]; simpa using h)
  have B0x := o.blk (t := 23) (cs := #[.int .i64 a.1, .int .i64 a.2]) (g := w.heap.size) (by first | exact (B0.out.alloc _) | exact Blk.drewN (B0.out.alloc _) _ | exact Blk.drew (B0.out.alloc _)) (by simp)
  have B1x := o.blk (t := 23) (cs := #[.int .i64 b.1, .int .i64 b.2]) (g := w.heap.size + 1) (by first | exact (B1.out.alloc _) | exact Blk.drewN (B1.out.alloc _) _ | exact Blk.drew (B1.out.alloc _)) (by simp)
  have B2x := o.blk (t := 23) (cs := #[.int .i64 0, .int .i64 0]) (g := w1.heap.size) (by first | exact B2n | exact Blk.drewN B2n _ | exact Blk.drew B2n) (by simp)
  have O2x : Only [] w w2 := (by first | exact Only.trans (O1.out.alloc _) o (by simp) | exact Only.trans (Only.drewN (O1.out.alloc _) _) o (by simp) | exact Only.trans (Only.drew (O1.out.alloc _)) o (by simp))
  have B0c0 := B0x.cell 0
  have B0c1 := B0x.cell 1
  have B0l := B0x.lt
  simp at B0c0 B0c1
  have B1c0 := B1x.cell 0
  have B1c1 := B1x.cell 1
  have B1l := B1x.lt
  simp at B1c0 B1c1
  have B2c0 := B2x.cell 0
  have B2c1 := B2x.cell 1
  have B2l := B2x.lt
  simp at B2c0 B2c1
  clear B0
  clear B1
  clear B2n
  have B0 := Lib.hid B0x
  have B1 := Lib.hid B1x
  have B2 := Lib.hid B2x
  clear B0x B1x B2x
  have O2 := Lib.hid O2x
  clear O1 O2x o
  go_wp2_with (fail)
  refine (awake_any _).mono ?_
  rintro e w3 ⟨rfl, o⟩
  have B3n : Blk (w2.alloc (.cells #[.int .i64 0, .int .i64 0] 23)) (w2.heap.size) 23 #[.int .i64 0, .int .i64 0] := (by have h := Blk.new w2 23 #[.int .i64 0, .int .i64 0]; simpa using h)
  have B0x := o.blk (t := 23) (cs := #[.int .i64 a.1, .int .i64 a.2]) (g := w.heap.size) (by first | exact (B0.out.alloc _) | exact Blk.drewN (B0.out.alloc _) _ | exact Blk.drew (B0.out.alloc _)) (by simp)
  have B1x := o.blk (t := 23) (cs := #[.int .i64 b.1, .int .i64 b.2]) (g := w.heap.size + 1) (by first | exact (B1.out.alloc _) | exact Blk.drewN (B1.out.alloc _) _ | exact Blk.drew (B1.out.alloc _)) (by simp)
  have B2x := o.blk (t := 23) (cs := #[.int .i64 0, .int .i64 0]) (g := w1.heap.size) (by first | exact (B2.out.alloc _) | exact Blk.drewN (B2.out.alloc _) _ | exact Blk.drew (B2.out.alloc _)) (by simp)
  have B3x := o.blk (t := 23) (cs := #[.int .i64 0, .int .i64 0]) (g := w2.heap.size) (by first | exact B3n | exact Blk.drewN B3n _ | exact Blk.drew B3n) (by simp)
  have O3x : Only [] w w3 := (by first | exact Only.trans (O2.out.alloc _) o (by simp) | exact Only.trans (Only.drewN (O2.out.alloc _) _) o (by simp) | exact Only.trans (Only.drew (O2.out.alloc _)) o (by simp))
  have B0c0 := B0x.cell 0
  have B0c1 := B0x.cell 1
  have B0l := B0x.lt
  simp at B0c0 B0c1
  have B1c0 := B1x.cell 0
  have B1c1 := B1x.cell 1
  have B1l := B1x.lt
  simp at B1c0 B1c1
  have B2c0 := B2x.cell 0
  have B2c1 := B2x.cell 1
  have B2l := B2x.lt
  simp at B2c0 B2c1
  have B3c0 := B3x.cell 0
  have B3c1 := B3x.cell 1
  have B3l := B3x.lt
  simp at B3c0 B3c1
  clear B0
  clear B1
  clear B2
  clear B3n
  have B0 := Lib.hid B0x
  have B1 := Lib.hid B1x
  have B2 := Lib.hid B2x
  have B3 := Lib.hid B3x
  clear B0x B1x B2x B3x
  have O3 := Lib.hid O3x
  clear O2 O3x o
  go_wp2_with (fail)
  go_ret
  exact ⟨rfl, O3.out⟩

set_option maxHeartbeats 2000000 in
theorem back_n (a b : Tm) (ha : a.ok) (hb : b.ok) {s : Tm} {d : Tm} (h1 : addT a b = (s, 0)) (hs : s.ok) (hsr : s.right = true) (hbn : b = (1, 0)) (h3 : subT s b = (d, 4)) (w : World) :
    Calls Tryd.prog 9 #[.agg #[.int .i64 a.1, .int .i64 a.2], .agg #[.int .i64 b.1, .int .i64 b.2]] w fun r w' => r = .returned (.bool true) ∧ Only [] w w' := by
  have h2 := (add_comm_ b a).trans h1
  have H1 := Lib.hid h1
  have H2 := Lib.hid h2
  clear h1 h2
  subst hbn
  have H3 := Lib.hid h3
  clear h3
  have HS := Lib.hid hsr
  clear hsr
  have O0 := Lib.hid (Only.refl [] w)
  go_enter Tryd.func9, Tryd.ntmps9
  go_wp2_with (fail)
  refine (addr a (1, 0) ha hb H1.out _).mono ?_
  rintro e w1 ⟨rfl, o⟩
  have B0n : Blk (w.alloc (.cells #[.int .i64 a.1, .int .i64 a.2] 23)) (w.heap.size) 23 #[.int .i64 a.1, .int .i64 a.2] := (by have h := Blk.new w 23 #[.int .i64 a.1, .int .i64 a.2]; simpa using h)
  have B1n : Blk ((w.alloc (.cells #[.int .i64 a.1, .int .i64 a.2] 23)).alloc (.cells #[.int .i64 1, .int .i64 0] 23)) (w.heap.size + 1) 23 #[.int .i64 1, .int .i64 0] := (by have h := Blk.new (w.alloc (.cells #[.int .i64 a.1, .int .i64 a.2] 23)) 23 #[.int .i64 1, .int .i64 0]; simpa using h)
  have B0x := o.blk (t := 23) (cs := #[.int .i64 a.1, .int .i64 a.2]) (g := w.heap.size) (by first | exact (B0n.alloc _) | exact Blk.drewN (B0n.alloc _) _ | exact Blk.drew (B0n.alloc _)) (by simp)
  have B1x := o.blk (t := 23) (cs := #[.int .i64 1, .int .i64 0]) (g := w.heap.size + 1) (by first | exact B1n | exact Blk.drewN B1n _ | exact Blk.drew B1n) (by simp)
  have O1x : Only [] w w1 := (by first | exact Only.trans ((O0.out.alloc _).alloc _) o (by simp) | exact Only.trans (Only.drewN ((O0.out.alloc _).alloc _) _) o (by simp) | exact Only.trans (Only.drew ((O0.out.alloc _).alloc _)) o (by simp))
  have B0c0 := B0x.cell 0
  have B0c1 := B0x.cell 1
  have B0l := B0x.lt
  simp at B0c0 B0c1
  have B1c0 := B1x.cell 0
  have B1c1 := B1x.cell 1
  have B1l := B1x.lt
  simp at B1c0 B1c1
  clear B0n B1n
  have B0 := Lib.hid B0x
  have B1 := Lib.hid B1x
  clear B0x B1x
  have O1 := Lib.hid O1x
  clear O0 O1x o
  go_wp2_with (fail)
  refine (addr (1, 0) a hb ha H2.out _).mono ?_
  rintro e w2 ⟨rfl, o⟩
  have B2n : Blk (w1.alloc (.cells #[.int .i64 s.1, .int .i64 s.2] 23)) (w1.heap.size) 23 #[.int .i64 s.1, .int .i64 s.2] := (by have h := Blk.new w1 23 #[.int .i64 s.1, .int .i64 s.2]; simpa using h)
  have B0x := o.blk (t := 23) (cs := #[.int .i64 a.1, .int .i64 a.2]) (g := w.heap.size) (by first | exact (B0.out.alloc _) | exact Blk.drewN (B0.out.alloc _) _ | exact Blk.drew (B0.out.alloc _)) (by simp)
  have B1x := o.blk (t := 23) (cs := #[.int .i64 1, .int .i64 0]) (g := w.heap.size + 1) (by first | exact (B1.out.alloc _) | exact Blk.drewN (B1.out.alloc _) _ | exact Blk.drew (B1.out.alloc _)) (by simp)
  have B2x := o.blk (t := 23) (cs := #[.int .i64 s.1, .int .i64 s.2]) (g := w1.heap.size) (by first | exact B2n | exact Blk.drewN B2n _ | exact Blk.drew B2n) (by simp)
  have O2x : Only [] w w2 := (by first | exact Only.trans (O1.out.alloc _) o (by simp) | exact Only.trans (Only.drewN (O1.out.alloc _) _) o (by simp) | exact Only.trans (Only.drew (O1.out.alloc _)) o (by simp))
  have B0c0 := B0x.cell 0
  have B0c1 := B0x.cell 1
  have B0l := B0x.lt
  simp at B0c0 B0c1
  have B1c0 := B1x.cell 0
  have B1c1 := B1x.cell 1
  have B1l := B1x.lt
  simp at B1c0 B1c1
  have B2c0 := B2x.cell 0
  have B2c1 := B2x.cell 1
  have B2l := B2x.lt
  simp at B2c0 B2c1
  clear B0
  clear B1
  clear B2n
  have B0 := Lib.hid B0x
  have B1 := Lib.hid B1x
  have B2 := Lib.hid B2x
  clear B0x B1x B2x
  have O2 := Lib.hid O2x
  clear O1 O2x o
  go_wp2_with (fail)
  refine (awake_any _).mono ?_
  rintro e w3 ⟨rfl, o⟩
  have B3n : Blk (w2.alloc (.cells #[.int .i64 s.1, .int .i64 s.2] 23)) (w2.heap.size) 23 #[.int .i64 s.1, .int .i64 s.2] := (by have h := Blk.new w2 23 #[.int .i64 s.1, .int .i64 s.2]; simpa using h)
  have B0x := o.blk (t := 23) (cs := #[.int .i64 a.1, .int .i64 a.2]) (g := w.heap.size) (by first | exact (B0.out.alloc _) | exact Blk.drewN (B0.out.alloc _) _ | exact Blk.drew (B0.out.alloc _)) (by simp)
  have B1x := o.blk (t := 23) (cs := #[.int .i64 1, .int .i64 0]) (g := w.heap.size + 1) (by first | exact (B1.out.alloc _) | exact Blk.drewN (B1.out.alloc _) _ | exact Blk.drew (B1.out.alloc _)) (by simp)
  have B2x := o.blk (t := 23) (cs := #[.int .i64 s.1, .int .i64 s.2]) (g := w1.heap.size) (by first | exact (B2.out.alloc _) | exact Blk.drewN (B2.out.alloc _) _ | exact Blk.drew (B2.out.alloc _)) (by simp)
  have B3x := o.blk (t := 23) (cs := #[.int .i64 s.1, .int .i64 s.2]) (g := w2.heap.size) (by first | exact B3n | exact Blk.drewN B3n _ | exact Blk.drew B3n) (by simp)
  have O3x : Only [] w w3 := (by first | exact Only.trans (O2.out.alloc _) o (by simp) | exact Only.trans (Only.drewN (O2.out.alloc _) _) o (by simp) | exact Only.trans (Only.drew (O2.out.alloc _)) o (by simp))
  have B0c0 := B0x.cell 0
  have B0c1 := B0x.cell 1
  have B0l := B0x.lt
  simp at B0c0 B0c1
  have B1c0 := B1x.cell 0
  have B1c1 := B1x.cell 1
  have B1l := B1x.lt
  simp at B1c0 B1c1
  have B2c0 := B2x.cell 0
  have B2c1 := B2x.cell 1
  have B2l := B2x.lt
  simp at B2c0 B2c1
  have B3c0 := B3x.cell 0
  have B3c1 := B3x.cell 1
  have B3l := B3x.lt
  simp at B3c0 B3c1
  clear B0
  clear B1
  clear B2
  clear B3n
  have B0 := Lib.hid B0x
  have B1 := Lib.hid B1x
  have B2 := Lib.hid B2x
  have B3 := Lib.hid B3x
  clear B0x B1x B2x B3x
  have O3 := Lib.hid O3x
  clear O2 O3x o
  go_wp2_with (fail)
  refine (right_t hs.1 hs.2 HS.out _).mono ?_
  rintro e w4 ⟨rfl, o⟩
  have B0x := o.blk (t := 23) (cs := #[.int .i64 a.1, .int .i64 a.2]) (g := w.heap.size) (by first | exact B0.out | exact Blk.drewN B0.out _ | exact Blk.drew B0.out) (by simp)
  have B1x := o.blk (t := 23) (cs := #[.int .i64 1, .int .i64 0]) (g := w.heap.size + 1) (by first | exact B1.out | exact Blk.drewN B1.out _ | exact Blk.drew B1.out) (by simp)
  have B2x := o.blk (t := 23) (cs := #[.int .i64 s.1, .int .i64 s.2]) (g := w1.heap.size) (by first | exact B2.out | exact Blk.drewN B2.out _ | exact Blk.drew B2.out) (by simp)
  have B3x := o.blk (t := 23) (cs := #[.int .i64 s.1, .int .i64 s.2]) (g := w2.heap.size) (by first | exact B3.out | exact Blk.drewN B3.out _ | exact Blk.drew B3.out) (by simp)
  have O4x : Only [] w w4 := (by first | exact Only.trans O3.out o (by simp) | exact Only.trans (Only.drewN O3.out _) o (by simp) | exact Only.trans (Only.drew O3.out) o (by simp))
  have B0c0 := B0x.cell 0
  have B0c1 := B0x.cell 1
  have B0l := B0x.lt
  simp at B0c0 B0c1
  have B1c0 := B1x.cell 0
  have B1c1 := B1x.cell 1
  have B1l := B1x.lt
  simp at B1c0 B1c1
  have B2c0 := B2x.cell 0
  have B2c1 := B2x.cell 1
  have B2l := B2x.lt
  simp at B2c0 B2c1
  have B3c0 := B3x.cell 0
  have B3c1 := B3x.cell 1
  have B3l := B3x.lt
  simp at B3c0 B3c1
  clear B0
  clear B1
  clear B2
  clear B3
  have B0 := Lib.hid B0x
  have B1 := Lib.hid B1x
  have B2 := Lib.hid B2x
  have B3 := Lib.hid B3x
  clear B0x B1x B2x B3x
  have O4 := Lib.hid O4x
  clear O3 O4x o
  go_wp2_with (fail)
  refine (subr s (1, 0) hs hb H3.out _).mono ?_
  rintro e w5 ⟨rfl, o⟩
  have B0x := o.blk (t := 23) (cs := #[.int .i64 a.1, .int .i64 a.2]) (g := w.heap.size) (by first | exact B0.out | exact Blk.drewN B0.out _ | exact Blk.drew B0.out) (by simp)
  have B1x := o.blk (t := 23) (cs := #[.int .i64 1, .int .i64 0]) (g := w.heap.size + 1) (by first | exact B1.out | exact Blk.drewN B1.out _ | exact Blk.drew B1.out) (by simp)
  have B2x := o.blk (t := 23) (cs := #[.int .i64 s.1, .int .i64 s.2]) (g := w1.heap.size) (by first | exact B2.out | exact Blk.drewN B2.out _ | exact Blk.drew B2.out) (by simp)
  have B3x := o.blk (t := 23) (cs := #[.int .i64 s.1, .int .i64 s.2]) (g := w2.heap.size) (by first | exact B3.out | exact Blk.drewN B3.out _ | exact Blk.drew B3.out) (by simp)
  have O5x : Only [] w w5 := (by first | exact Only.trans O4.out o (by simp) | exact Only.trans (Only.drewN O4.out _) o (by simp) | exact Only.trans (Only.drew O4.out) o (by simp))
  have B0c0 := B0x.cell 0
  have B0c1 := B0x.cell 1
  have B0l := B0x.lt
  simp at B0c0 B0c1
  have B1c0 := B1x.cell 0
  have B1c1 := B1x.cell 1
  have B1l := B1x.lt
  simp at B1c0 B1c1
  have B2c0 := B2x.cell 0
  have B2c1 := B2x.cell 1
  have B2l := B2x.lt
  simp at B2c0 B2c1
  have B3c0 := B3x.cell 0
  have B3c1 := B3x.cell 1
  have B3l := B3x.lt
  simp at B3c0 B3c1
  clear B0
  clear B1
  clear B2
  clear B3
  have B0 := Lib.hid B0x
  have B1 := Lib.hid B1x
  have B2 := Lib.hid B2x
  have B3 := Lib.hid B3x
  clear B0x B1x B2x B3x
  have O5 := Lib.hid O5x
  clear O4 O5x o
  go_wp2_with (fail)
  go_region_held3 (fun w' => w'.cell? ⟨w.heap.size + 1, 0, none⟩ = some (.int .i64 1) ∧ w'.cell? ⟨w.heap.size + 1, 1, none⟩ = some (.int .i64 0)) (first | (go_keep; done) | (refine ⟨?_, ?_⟩ <;> (go_simp; done)))
    (first
      | (go_at_call 22; refine (never_any _).mono ?_; rintro e w6 ⟨rfl, o⟩; have B4n : Blk (w5.alloc (.cells #[.int .i64 d.1, .int .i64 d.2] 23)) (w5.heap.size) 23 #[.int .i64 d.1, .int .i64 d.2] := (by have h := Blk.new w5 23 #[.int .i64 d.1, .int .i64 d.2]; simpa using h); have B0x := o.blk (t := 23) (cs := #[.int .i64 a.1, .int .i64 a.2]) (g := w.heap.size) (by first | exact (B0.out.alloc _) | exact Blk.drewN (B0.out.alloc _) _ | exact Blk.drew (B0.out.alloc _)) (by simp); have B1x := o.blk (t := 23) (cs := #[.int .i64 1, .int .i64 0]) (g := w.heap.size + 1) (by first | exact (B1.out.alloc _) | exact Blk.drewN (B1.out.alloc _) _ | exact Blk.drew (B1.out.alloc _)) (by simp); have B2x := o.blk (t := 23) (cs := #[.int .i64 s.1, .int .i64 s.2]) (g := w1.heap.size) (by first | exact (B2.out.alloc _) | exact Blk.drewN (B2.out.alloc _) _ | exact Blk.drew (B2.out.alloc _)) (by simp); have B3x := o.blk (t := 23) (cs := #[.int .i64 s.1, .int .i64 s.2]) (g := w2.heap.size) (by first | exact (B3.out.alloc _) | exact Blk.drewN (B3.out.alloc _) _ | exact Blk.drew (B3.out.alloc _)) (by simp); have B4x := o.blk (t := 23) (cs := #[.int .i64 d.1, .int .i64 d.2]) (g := w5.heap.size) (by first | exact B4n | exact Blk.drewN B4n _ | exact Blk.drew B4n) (by simp); have O6x : Only [] w w6 := (by first | exact Only.trans (O5.out.alloc _) o (by simp) | exact Only.trans (Only.drewN (O5.out.alloc _) _) o (by simp) | exact Only.trans (Only.drew (O5.out.alloc _)) o (by simp)); have B0c0 := B0x.cell 0; have B0c1 := B0x.cell 1; have B0l := B0x.lt; simp at B0c0 B0c1; have B1c0 := B1x.cell 0; have B1c1 := B1x.cell 1; have B1l := B1x.lt; simp at B1c0 B1c1; have B2c0 := B2x.cell 0; have B2c1 := B2x.cell 1; have B2l := B2x.lt; simp at B2c0 B2c1; have B3c0 := B3x.cell 0; have B3c1 := B3x.cell 1; have B3l := B3x.lt; simp at B3c0 B3c1; have B4c0 := B4x.cell 0; have B4c1 := B4x.cell 1; have B4l := B4x.lt; simp at B4c0 B4c1; clear B0; clear B1; clear B2; clear B3; clear B4n; have B0 := Lib.hid B0x; have B1 := Lib.hid B1x; have B2 := Lib.hid B2x; have B3 := Lib.hid B3x; have B4 := Lib.hid B4x; clear B0x B1x B2x B3x B4x; have O6 := Lib.hid O6x; clear O5 O6x o))
  go_wp2_with (fail)
  go_ret
  exact ⟨by simp, O6.out⟩

set_option maxHeartbeats 2000000 in
theorem back_r (a b : Tm) (ha : a.ok) (hb : b.ok) {s : Tm} (h1 : addT a b = (s, 0)) (hs : s.ok) (hsr : s.right = true) (hbn : b.2 ≠ 0) (h3 : subT s b = (a, 0)) (w : World) :
    Calls Tryd.prog 9 #[.agg #[.int .i64 a.1, .int .i64 a.2], .agg #[.int .i64 b.1, .int .i64 b.2]] w fun r w' => r = .returned (.bool true) ∧ Only [] w w' := by
  have h2 := (add_comm_ b a).trans h1
  have H1 := Lib.hid h1
  have H2 := Lib.hid h2
  clear h1 h2
  have hb2 : (b.2 == 0) = false := by simpa using hbn
  have H3 := Lib.hid h3
  clear h3 hbn
  have HS := Lib.hid hsr
  clear hsr
  have O0 := Lib.hid (Only.refl [] w)
  go_enter Tryd.func9, Tryd.ntmps9
  go_wp2_with (fail)
  refine (addr a b ha hb H1.out _).mono ?_
  rintro e w1 ⟨rfl, o⟩
  have B0n : Blk (w.alloc (.cells #[.int .i64 a.1, .int .i64 a.2] 23)) (w.heap.size) 23 #[.int .i64 a.1, .int .i64 a.2] := (by have h := Blk.new w 23 #[.int .i64 a.1, .int .i64 a.2]; simpa using h)
  have B1n : Blk ((w.alloc (.cells #[.int .i64 a.1, .int .i64 a.2] 23)).alloc (.cells #[.int .i64 b.1, .int .i64 b.2] 23)) (w.heap.size + 1) 23 #[.int .i64 b.1, .int .i64 b.2] := (by have h := Blk.new (w.alloc (.cells #[.int .i64 a.1, .int .i64 a.2] 23)) 23 #[.int .i64 b.1, .int .i64 b.2]; simpa using h)
  have B0x := o.blk (t := 23) (cs := #[.int .i64 a.1, .int .i64 a.2]) (g := w.heap.size) (by first | exact (B0n.alloc _) | exact Blk.drewN (B0n.alloc _) _ | exact Blk.drew (B0n.alloc _)) (by simp)
  have B1x := o.blk (t := 23) (cs := #[.int .i64 b.1, .int .i64 b.2]) (g := w.heap.size + 1) (by first | exact B1n | exact Blk.drewN B1n _ | exact Blk.drew B1n) (by simp)
  have O1x : Only [] w w1 := (by first | exact Only.trans ((O0.out.alloc _).alloc _) o (by simp) | exact Only.trans (Only.drewN ((O0.out.alloc _).alloc _) _) o (by simp) | exact Only.trans (Only.drew ((O0.out.alloc _).alloc _)) o (by simp))
  have B0c0 := B0x.cell 0
  have B0c1 := B0x.cell 1
  have B0l := B0x.lt
  simp at B0c0 B0c1
  have B1c0 := B1x.cell 0
  have B1c1 := B1x.cell 1
  have B1l := B1x.lt
  simp at B1c0 B1c1
  clear B0n B1n
  have B0 := Lib.hid B0x
  have B1 := Lib.hid B1x
  clear B0x B1x
  have O1 := Lib.hid O1x
  clear O0 O1x o
  go_wp2_with (fail)
  refine (addr b a hb ha H2.out _).mono ?_
  rintro e w2 ⟨rfl, o⟩
  have B2n : Blk (w1.alloc (.cells #[.int .i64 s.1, .int .i64 s.2] 23)) (w1.heap.size) 23 #[.int .i64 s.1, .int .i64 s.2] := (by have h := Blk.new w1 23 #[.int .i64 s.1, .int .i64 s.2]; simpa using h)
  have B0x := o.blk (t := 23) (cs := #[.int .i64 a.1, .int .i64 a.2]) (g := w.heap.size) (by first | exact (B0.out.alloc _) | exact Blk.drewN (B0.out.alloc _) _ | exact Blk.drew (B0.out.alloc _)) (by simp)
  have B1x := o.blk (t := 23) (cs := #[.int .i64 b.1, .int .i64 b.2]) (g := w.heap.size + 1) (by first | exact (B1.out.alloc _) | exact Blk.drewN (B1.out.alloc _) _ | exact Blk.drew (B1.out.alloc _)) (by simp)
  have B2x := o.blk (t := 23) (cs := #[.int .i64 s.1, .int .i64 s.2]) (g := w1.heap.size) (by first | exact B2n | exact Blk.drewN B2n _ | exact Blk.drew B2n) (by simp)
  have O2x : Only [] w w2 := (by first | exact Only.trans (O1.out.alloc _) o (by simp) | exact Only.trans (Only.drewN (O1.out.alloc _) _) o (by simp) | exact Only.trans (Only.drew (O1.out.alloc _)) o (by simp))
  have B0c0 := B0x.cell 0
  have B0c1 := B0x.cell 1
  have B0l := B0x.lt
  simp at B0c0 B0c1
  have B1c0 := B1x.cell 0
  have B1c1 := B1x.cell 1
  have B1l := B1x.lt
  simp at B1c0 B1c1
  have B2c0 := B2x.cell 0
  have B2c1 := B2x.cell 1
  have B2l := B2x.lt
  simp at B2c0 B2c1
  clear B0
  clear B1
  clear B2n
  have B0 := Lib.hid B0x
  have B1 := Lib.hid B1x
  have B2 := Lib.hid B2x
  clear B0x B1x B2x
  have O2 := Lib.hid O2x
  clear O1 O2x o
  go_wp2_with (fail)
  refine (awake_any _).mono ?_
  rintro e w3 ⟨rfl, o⟩
  have B3n : Blk (w2.alloc (.cells #[.int .i64 s.1, .int .i64 s.2] 23)) (w2.heap.size) 23 #[.int .i64 s.1, .int .i64 s.2] := (by have h := Blk.new w2 23 #[.int .i64 s.1, .int .i64 s.2]; simpa using h)
  have B0x := o.blk (t := 23) (cs := #[.int .i64 a.1, .int .i64 a.2]) (g := w.heap.size) (by first | exact (B0.out.alloc _) | exact Blk.drewN (B0.out.alloc _) _ | exact Blk.drew (B0.out.alloc _)) (by simp)
  have B1x := o.blk (t := 23) (cs := #[.int .i64 b.1, .int .i64 b.2]) (g := w.heap.size + 1) (by first | exact (B1.out.alloc _) | exact Blk.drewN (B1.out.alloc _) _ | exact Blk.drew (B1.out.alloc _)) (by simp)
  have B2x := o.blk (t := 23) (cs := #[.int .i64 s.1, .int .i64 s.2]) (g := w1.heap.size) (by first | exact (B2.out.alloc _) | exact Blk.drewN (B2.out.alloc _) _ | exact Blk.drew (B2.out.alloc _)) (by simp)
  have B3x := o.blk (t := 23) (cs := #[.int .i64 s.1, .int .i64 s.2]) (g := w2.heap.size) (by first | exact B3n | exact Blk.drewN B3n _ | exact Blk.drew B3n) (by simp)
  have O3x : Only [] w w3 := (by first | exact Only.trans (O2.out.alloc _) o (by simp) | exact Only.trans (Only.drewN (O2.out.alloc _) _) o (by simp) | exact Only.trans (Only.drew (O2.out.alloc _)) o (by simp))
  have B0c0 := B0x.cell 0
  have B0c1 := B0x.cell 1
  have B0l := B0x.lt
  simp at B0c0 B0c1
  have B1c0 := B1x.cell 0
  have B1c1 := B1x.cell 1
  have B1l := B1x.lt
  simp at B1c0 B1c1
  have B2c0 := B2x.cell 0
  have B2c1 := B2x.cell 1
  have B2l := B2x.lt
  simp at B2c0 B2c1
  have B3c0 := B3x.cell 0
  have B3c1 := B3x.cell 1
  have B3l := B3x.lt
  simp at B3c0 B3c1
  clear B0
  clear B1
  clear B2
  clear B3n
  have B0 := Lib.hid B0x
  have B1 := Lib.hid B1x
  have B2 := Lib.hid B2x
  have B3 := Lib.hid B3x
  clear B0x B1x B2x B3x
  have O3 := Lib.hid O3x
  clear O2 O3x o
  go_wp2_with (fail)
  refine (right_t hs.1 hs.2 HS.out _).mono ?_
  rintro e w4 ⟨rfl, o⟩
  have B0x := o.blk (t := 23) (cs := #[.int .i64 a.1, .int .i64 a.2]) (g := w.heap.size) (by first | exact B0.out | exact Blk.drewN B0.out _ | exact Blk.drew B0.out) (by simp)
  have B1x := o.blk (t := 23) (cs := #[.int .i64 b.1, .int .i64 b.2]) (g := w.heap.size + 1) (by first | exact B1.out | exact Blk.drewN B1.out _ | exact Blk.drew B1.out) (by simp)
  have B2x := o.blk (t := 23) (cs := #[.int .i64 s.1, .int .i64 s.2]) (g := w1.heap.size) (by first | exact B2.out | exact Blk.drewN B2.out _ | exact Blk.drew B2.out) (by simp)
  have B3x := o.blk (t := 23) (cs := #[.int .i64 s.1, .int .i64 s.2]) (g := w2.heap.size) (by first | exact B3.out | exact Blk.drewN B3.out _ | exact Blk.drew B3.out) (by simp)
  have O4x : Only [] w w4 := (by first | exact Only.trans O3.out o (by simp) | exact Only.trans (Only.drewN O3.out _) o (by simp) | exact Only.trans (Only.drew O3.out) o (by simp))
  have B0c0 := B0x.cell 0
  have B0c1 := B0x.cell 1
  have B0l := B0x.lt
  simp at B0c0 B0c1
  have B1c0 := B1x.cell 0
  have B1c1 := B1x.cell 1
  have B1l := B1x.lt
  simp at B1c0 B1c1
  have B2c0 := B2x.cell 0
  have B2c1 := B2x.cell 1
  have B2l := B2x.lt
  simp at B2c0 B2c1
  have B3c0 := B3x.cell 0
  have B3c1 := B3x.cell 1
  have B3l := B3x.lt
  simp at B3c0 B3c1
  clear B0
  clear B1
  clear B2
  clear B3
  have B0 := Lib.hid B0x
  have B1 := Lib.hid B1x
  have B2 := Lib.hid B2x
  have B3 := Lib.hid B3x
  clear B0x B1x B2x B3x
  have O4 := Lib.hid O4x
  clear O3 O4x o
  go_wp2_with (fail)
  refine (subr s b hs hb H3.out _).mono ?_
  rintro e w5 ⟨rfl, o⟩
  have B0x := o.blk (t := 23) (cs := #[.int .i64 a.1, .int .i64 a.2]) (g := w.heap.size) (by first | exact B0.out | exact Blk.drewN B0.out _ | exact Blk.drew B0.out) (by simp)
  have B1x := o.blk (t := 23) (cs := #[.int .i64 b.1, .int .i64 b.2]) (g := w.heap.size + 1) (by first | exact B1.out | exact Blk.drewN B1.out _ | exact Blk.drew B1.out) (by simp)
  have B2x := o.blk (t := 23) (cs := #[.int .i64 s.1, .int .i64 s.2]) (g := w1.heap.size) (by first | exact B2.out | exact Blk.drewN B2.out _ | exact Blk.drew B2.out) (by simp)
  have B3x := o.blk (t := 23) (cs := #[.int .i64 s.1, .int .i64 s.2]) (g := w2.heap.size) (by first | exact B3.out | exact Blk.drewN B3.out _ | exact Blk.drew B3.out) (by simp)
  have O5x : Only [] w w5 := (by first | exact Only.trans O4.out o (by simp) | exact Only.trans (Only.drewN O4.out _) o (by simp) | exact Only.trans (Only.drew O4.out) o (by simp))
  have B0c0 := B0x.cell 0
  have B0c1 := B0x.cell 1
  have B0l := B0x.lt
  simp at B0c0 B0c1
  have B1c0 := B1x.cell 0
  have B1c1 := B1x.cell 1
  have B1l := B1x.lt
  simp at B1c0 B1c1
  have B2c0 := B2x.cell 0
  have B2c1 := B2x.cell 1
  have B2l := B2x.lt
  simp at B2c0 B2c1
  have B3c0 := B3x.cell 0
  have B3c1 := B3x.cell 1
  have B3l := B3x.lt
  simp at B3c0 B3c1
  clear B0
  clear B1
  clear B2
  clear B3
  have B0 := Lib.hid B0x
  have B1 := Lib.hid B1x
  have B2 := Lib.hid B2x
  have B3 := Lib.hid B3x
  clear B0x B1x B2x B3x
  have O5 := Lib.hid O5x
  clear O4 O5x o
  go_wp2_with (fail)
  go_region_held3 (fun w' => w'.cell? ⟨w.heap.size + 1, 0, none⟩ = some (.int .i64 b.1) ∧ w'.cell? ⟨w.heap.size + 1, 1, none⟩ = some (.int .i64 b.2)) (first | (go_keep; done) | (refine ⟨?_, ?_⟩ <;> (go_simp; done)))
    (first
      | (go_at_call 22; refine (never_any _).mono ?_; rintro e w6 ⟨rfl, o⟩; have B4n : Blk (w5.alloc (.cells #[.int .i64 a.1, .int .i64 a.2] 23)) (w5.heap.size) 23 #[.int .i64 a.1, .int .i64 a.2] := (by have h := Blk.new w5 23 #[.int .i64 a.1, .int .i64 a.2]; simpa using h); have B0x := o.blk (t := 23) (cs := #[.int .i64 a.1, .int .i64 a.2]) (g := w.heap.size) (by first | exact (B0.out.alloc _) | exact Blk.drewN (B0.out.alloc _) _ | exact Blk.drew (B0.out.alloc _)) (by simp); have B1x := o.blk (t := 23) (cs := #[.int .i64 b.1, .int .i64 b.2]) (g := w.heap.size + 1) (by first | exact (B1.out.alloc _) | exact Blk.drewN (B1.out.alloc _) _ | exact Blk.drew (B1.out.alloc _)) (by simp); have B2x := o.blk (t := 23) (cs := #[.int .i64 s.1, .int .i64 s.2]) (g := w1.heap.size) (by first | exact (B2.out.alloc _) | exact Blk.drewN (B2.out.alloc _) _ | exact Blk.drew (B2.out.alloc _)) (by simp); have B3x := o.blk (t := 23) (cs := #[.int .i64 s.1, .int .i64 s.2]) (g := w2.heap.size) (by first | exact (B3.out.alloc _) | exact Blk.drewN (B3.out.alloc _) _ | exact Blk.drew (B3.out.alloc _)) (by simp); have B4x := o.blk (t := 23) (cs := #[.int .i64 a.1, .int .i64 a.2]) (g := w5.heap.size) (by first | exact B4n | exact Blk.drewN B4n _ | exact Blk.drew B4n) (by simp); have O6x : Only [] w w6 := (by first | exact Only.trans (O5.out.alloc _) o (by simp) | exact Only.trans (Only.drewN (O5.out.alloc _) _) o (by simp) | exact Only.trans (Only.drew (O5.out.alloc _)) o (by simp)); have B0c0 := B0x.cell 0; have B0c1 := B0x.cell 1; have B0l := B0x.lt; simp at B0c0 B0c1; have B1c0 := B1x.cell 0; have B1c1 := B1x.cell 1; have B1l := B1x.lt; simp at B1c0 B1c1; have B2c0 := B2x.cell 0; have B2c1 := B2x.cell 1; have B2l := B2x.lt; simp at B2c0 B2c1; have B3c0 := B3x.cell 0; have B3c1 := B3x.cell 1; have B3l := B3x.lt; simp at B3c0 B3c1; have B4c0 := B4x.cell 0; have B4c1 := B4x.cell 1; have B4l := B4x.lt; simp at B4c0 B4c1; clear B0; clear B1; clear B2; clear B3; clear B4n; have B0 := Lib.hid B0x; have B1 := Lib.hid B1x; have B2 := Lib.hid B2x; have B3 := Lib.hid B3x; have B4 := Lib.hid B4x; clear B0x B1x B2x B3x B4x; have O6 := Lib.hid O6x; clear O5 O6x o))
  go_wp2_with (fail)
  go_ret
  exact ⟨by simp, O6.out⟩

theorem back_any (a b : Tm) (ha : a.ok) (hb : b.ok) (w : World) :
    Calls Tryd.prog 9 #[.agg #[.int .i64 a.1, .int .i64 a.2], .agg #[.int .i64 b.1, .int .i64 b.2]] w fun r w' => r = .returned (.bool true) ∧ Only [] w w' := by
  rcases add_cases ha hb with h | h | ⟨s, h, hs, hsr, _, hbr⟩
  · exact back_e1 a b ha hb h.1 w
  · exact back_e2 a b ha hb h w
  · have hsub := sub_add ha hb (by rw [h])
    rw [h] at hsub
    by_cases hb0 : b.2 = 0
    · have hbn := right_end hbr hb0
      exact back_n a b ha hb (d := (subT s b).1) h hs hsr hbn (by rw [← hsub.1 hbn]) w
    · exact back_r a b ha hb h hs hsr hb0 (hsub.2 (fun e => hb0 (by rw [e]))) w

end Go.Proofs.YtgfmahfdkiblbaaDoor
