/- SpanOrders: the law's own walk. -/
import Derived.Test.YtgfmahfdkiblbaaDoorThirds
namespace Go.Proofs.YtgfmahfdkiblbaaDoor
open Go.RowKit Go.Kx
set_option maxRecDepth 20000

/-- two times held against each other -/
theorem eq_times (a b c d : Int) (W : World) : (binOp .eql 23 (.agg #[.int .i64 a, .int .i64 b]) (.agg #[.int .i64 c, .int .i64 d])).run Tryd.prog W = .ok (.bool (decide (a = c ∧ b = d))) W := by
  by_cases h : a = c <;> by_cases h2 : b = d <;> simp [go_sem, h, h2]
theorem eq_timesF {a b : Tm} (h : a ≠ b) (W : World) : (binOp .eql 23 (.agg #[.int .i64 a.1, .int .i64 a.2]) (.agg #[.int .i64 b.1, .int .i64 b.2])).run Tryd.prog W = .ok (.bool false) W := by
  rw [eq_times, decide_eq_false]
  exact fun k => h (Prod.ext k.1 k.2)
theorem eq_never (W : World) : (binOp .eql 23 (.agg #[.int .i64 1, .int .i64 0]) (.agg #[.int .i64 1, .int .i64 0])).run Tryd.prog W = .ok (.bool true) W := by
  rw [eq_times]; rfl
theorem _root_.Go.Kx.Blk.facts2 {w : World} {g : Nat} {t : TypeId} {a b : Value} (h : Blk w g t #[a, b]) : w.cell? ⟨g, 0, none⟩ = some a ∧ w.cell? ⟨g, 1, none⟩ = some b ∧ g < w.heap.size :=
  ⟨by simpa using h.cell 0, by simpa using h.cell 1, h.lt⟩
theorem cmpr (a b : Tm) (ha : a.ok) (hb : b.ok) {x : Int} (h : cmpT a b = x) (w : World) :
    Calls Tryd.prog 16 #[.agg #[.int .i64 a.1, .int .i64 a.2], .agg #[.int .i64 b.1, .int .i64 b.2]] w fun r w' => r = .returned (.int .i64 x) ∧ Only [] w w' := by
  have := cmp_any a b ha hb w
  rwa [h] at this

set_option maxHeartbeats 2000000 in
theorem orders_w1 (a b c : Tm) (ha : a.ok) (hb : b.ok) (_ : c.ok) (hx : cmpT a b = 0) (hy : cmpT b a = 0) (ra : a.right = false) (w : World) :
    Calls Tryd.prog 7 #[.agg #[.int .i64 a.1, .int .i64 a.2], .agg #[.int .i64 b.1, .int .i64 b.2], .agg #[.int .i64 c.1, .int .i64 c.2]] w fun r w' => r = .returned (.bool true) ∧ Only [] w w' := by
  have HX := Lib.hid hx
  have HY := Lib.hid hy
  clear hx hy
  have RA := Lib.hid ra
  clear ra
  have O0 := Lib.hid (Only.refl [] w)
  go_enter Tryd.func7, Tryd.ntmps7
  go_wp2_with (fail)
  refine (cmpr a b ha hb HX.out _).mono ?_
  rintro e w1 ⟨rfl, o⟩
  have B0n : Blk (w.alloc (.cells #[.int .i64 a.1, .int .i64 a.2] 23)) (w.heap.size) 23 #[.int .i64 a.1, .int .i64 a.2] := (by have h := Blk.new w 23 #[.int .i64 a.1, .int .i64 a.2]; simpa using h)
  have B1n : Blk ((w.alloc (.cells #[.int .i64 a.1, .int .i64 a.2] 23)).alloc (.cells #[.int .i64 b.1, .int .i64 b.2] 23)) (w.heap.size + 1) 23 #[.int .i64 b.1, .int .i64 b.2] := (by have h := Blk.new (w.alloc (.cells #[.int .i64 a.1, .int .i64 a.2] 23)) 23 #[.int .i64 b.1, .int .i64 b.2]; simpa using h)
  have B2n : Blk (((w.alloc (.cells #[.int .i64 a.1, .int .i64 a.2] 23)).alloc (.cells #[.int .i64 b.1, .int .i64 b.2] 23)).alloc (.cells #[.int .i64 c.1, .int .i64 c.2] 23)) (w.heap.size + 2) 23 #[.int .i64 c.1, .int .i64 c.2] := (by have h := Blk.new ((w.alloc (.cells #[.int .i64 a.1, .int .i64 a.2] 23)).alloc (.cells #[.int .i64 b.1, .int .i64 b.2] 23)) 23 #[.int .i64 c.1, .int .i64 c.2]; simpa using h)
  have B0x := o.blk (t := 23) (cs := #[.int .i64 a.1, .int .i64 a.2]) (g := w.heap.size) (by first | exact ((B0n.alloc _).alloc _) | exact Blk.drewN ((B0n.alloc _).alloc _) _ | exact Blk.drew ((B0n.alloc _).alloc _)) (by simp)
  have B1x := o.blk (t := 23) (cs := #[.int .i64 b.1, .int .i64 b.2]) (g := w.heap.size + 1) (by first | exact (B1n.alloc _) | exact Blk.drewN (B1n.alloc _) _ | exact Blk.drew (B1n.alloc _)) (by simp)
  have B2x := o.blk (t := 23) (cs := #[.int .i64 c.1, .int .i64 c.2]) (g := w.heap.size + 2) (by first | exact B2n | exact Blk.drewN B2n _ | exact Blk.drew B2n) (by simp)
  have O1x : Only [] w w1 := (by first | exact Only.trans (((O0.out.alloc _).alloc _).alloc _) o (by simp) | exact Only.trans (Only.drewN (((O0.out.alloc _).alloc _).alloc _) _) o (by simp) | exact Only.trans (Only.drew (((O0.out.alloc _).alloc _).alloc _)) o (by simp))
  obtain ⟨B0c0, B0c1, B0l⟩ := B0x.facts2
  obtain ⟨B1c0, B1c1, B1l⟩ := B1x.facts2
  obtain ⟨B2c0, B2c1, B2l⟩ := B2x.facts2
  clear B0n B1n B2n O0 o
  have B0 := Lib.hid B0x; have B1 := Lib.hid B1x; have B2 := Lib.hid B2x; have O1 := Lib.hid O1x
  clear B0x B1x B2x O1x
  go_wp2_with (fail)
  refine (awake_any _).mono ?_
  rintro e w2 ⟨rfl, o⟩
  have B0x := o.blk (t := 23) (cs := #[.int .i64 a.1, .int .i64 a.2]) (g := w.heap.size) (by first | exact B0.out | exact Blk.drewN B0.out _ | exact Blk.drew B0.out) (by simp)
  have B1x := o.blk (t := 23) (cs := #[.int .i64 b.1, .int .i64 b.2]) (g := w.heap.size + 1) (by first | exact B1.out | exact Blk.drewN B1.out _ | exact Blk.drew B1.out) (by simp)
  have B2x := o.blk (t := 23) (cs := #[.int .i64 c.1, .int .i64 c.2]) (g := w.heap.size + 2) (by first | exact B2.out | exact Blk.drewN B2.out _ | exact Blk.drew B2.out) (by simp)
  have O2x : Only [] w w2 := (by first | exact Only.trans O1.out o (by simp) | exact Only.trans (Only.drewN O1.out _) o (by simp) | exact Only.trans (Only.drew O1.out) o (by simp))
  obtain ⟨B0c0, B0c1, B0l⟩ := B0x.facts2
  obtain ⟨B1c0, B1c1, B1l⟩ := B1x.facts2
  obtain ⟨B2c0, B2c1, B2l⟩ := B2x.facts2
  clear B0 B1 B2 O1 o
  have B0 := Lib.hid B0x; have B1 := Lib.hid B1x; have B2 := Lib.hid B2x; have O2 := Lib.hid O2x
  clear B0x B1x B2x O2x
  go_wp2_with (fail)
  refine (cmpr b a hb ha HY.out _).mono ?_
  rintro e w3 ⟨rfl, o⟩
  have B0x := o.blk (t := 23) (cs := #[.int .i64 a.1, .int .i64 a.2]) (g := w.heap.size) (by first | exact B0.out | exact Blk.drewN B0.out _ | exact Blk.drew B0.out) (by simp)
  have B1x := o.blk (t := 23) (cs := #[.int .i64 b.1, .int .i64 b.2]) (g := w.heap.size + 1) (by first | exact B1.out | exact Blk.drewN B1.out _ | exact Blk.drew B1.out) (by simp)
  have B2x := o.blk (t := 23) (cs := #[.int .i64 c.1, .int .i64 c.2]) (g := w.heap.size + 2) (by first | exact B2.out | exact Blk.drewN B2.out _ | exact Blk.drew B2.out) (by simp)
  have O3x : Only [] w w3 := (by first | exact Only.trans O2.out o (by simp) | exact Only.trans (Only.drewN O2.out _) o (by simp) | exact Only.trans (Only.drew O2.out) o (by simp))
  obtain ⟨B0c0, B0c1, B0l⟩ := B0x.facts2
  obtain ⟨B1c0, B1c1, B1l⟩ := B1x.facts2
  obtain ⟨B2c0, B2c1, B2l⟩ := B2x.facts2
  clear B0 B1 B2 O2 o
  have B0 := Lib.hid B0x; have B1 := Lib.hid B1x; have B2 := Lib.hid B2x; have O3 := Lib.hid O3x
  clear B0x B1x B2x O3x
  go_wp2_with (fail)
  refine (cmpr a a ha ha (cmp_self a) _).mono ?_
  rintro e w4 ⟨rfl, o⟩
  have B0x := o.blk (t := 23) (cs := #[.int .i64 a.1, .int .i64 a.2]) (g := w.heap.size) (by first | exact B0.out | exact Blk.drewN B0.out _ | exact Blk.drew B0.out) (by simp)
  have B1x := o.blk (t := 23) (cs := #[.int .i64 b.1, .int .i64 b.2]) (g := w.heap.size + 1) (by first | exact B1.out | exact Blk.drewN B1.out _ | exact Blk.drew B1.out) (by simp)
  have B2x := o.blk (t := 23) (cs := #[.int .i64 c.1, .int .i64 c.2]) (g := w.heap.size + 2) (by first | exact B2.out | exact Blk.drewN B2.out _ | exact Blk.drew B2.out) (by simp)
  have O4x : Only [] w w4 := (by first | exact Only.trans O3.out o (by simp) | exact Only.trans (Only.drewN O3.out _) o (by simp) | exact Only.trans (Only.drew O3.out) o (by simp))
  obtain ⟨B0c0, B0c1, B0l⟩ := B0x.facts2
  obtain ⟨B1c0, B1c1, B1l⟩ := B1x.facts2
  obtain ⟨B2c0, B2c1, B2l⟩ := B2x.facts2
  clear B0 B1 B2 O3 o
  have B0 := Lib.hid B0x; have B1 := Lib.hid B1x; have B2 := Lib.hid B2x; have O4 := Lib.hid O4x
  clear B0x B1x B2x O4x
  go_wp2_with (fail)
  refine (right_f ha.1 ha.2 RA.out _).mono ?_
  rintro e w5 ⟨rfl, o⟩
  have B0x := o.blk (t := 23) (cs := #[.int .i64 a.1, .int .i64 a.2]) (g := w.heap.size) (by first | exact B0.out | exact Blk.drewN B0.out _ | exact Blk.drew B0.out) (by simp)
  have B1x := o.blk (t := 23) (cs := #[.int .i64 b.1, .int .i64 b.2]) (g := w.heap.size + 1) (by first | exact B1.out | exact Blk.drewN B1.out _ | exact Blk.drew B1.out) (by simp)
  have B2x := o.blk (t := 23) (cs := #[.int .i64 c.1, .int .i64 c.2]) (g := w.heap.size + 2) (by first | exact B2.out | exact Blk.drewN B2.out _ | exact Blk.drew B2.out) (by simp)
  have O5x : Only [] w w5 := (by first | exact Only.trans O4.out o (by simp) | exact Only.trans (Only.drewN O4.out _) o (by simp) | exact Only.trans (Only.drew O4.out) o (by simp))
  obtain ⟨B0c0, B0c1, B0l⟩ := B0x.facts2
  obtain ⟨B1c0, B1c1, B1l⟩ := B1x.facts2
  obtain ⟨B2c0, B2c1, B2l⟩ := B2x.facts2
  clear B0 B1 B2 O4 o
  have B0 := Lib.hid B0x; have B1 := Lib.hid B1x; have B2 := Lib.hid B2x; have O5 := Lib.hid O5x
  clear B0x B1x B2x O5x
  go_wp2_with (fail)
  go_ret
  exact ⟨rfl, by first | exact O5.out | exact Only.drewN O5.out _ | exact Only.drew O5.out⟩


set_option maxHeartbeats 2000000 in
theorem orders_w2 (a b c : Tm) (ha : a.ok) (hb : b.ok) (_ : c.ok) (hx : cmpT a b = 0) (hy : cmpT b a = 0) (ra : a.right = true) (rb : b.right = false) (w : World) :
    Calls Tryd.prog 7 #[.agg #[.int .i64 a.1, .int .i64 a.2], .agg #[.int .i64 b.1, .int .i64 b.2], .agg #[.int .i64 c.1, .int .i64 c.2]] w fun r w' => r = .returned (.bool true) ∧ Only [] w w' := by
  have HX := Lib.hid hx
  have HY := Lib.hid hy
  clear hx hy
  have RA := Lib.hid ra
  have RB := Lib.hid rb
  clear ra rb
  have O0 := Lib.hid (Only.refl [] w)
  go_enter Tryd.func7, Tryd.ntmps7
  go_wp2_with (fail)
  refine (cmpr a b ha hb HX.out _).mono ?_
  rintro e w1 ⟨rfl, o⟩
  have B0n : Blk (w.alloc (.cells #[.int .i64 a.1, .int .i64 a.2] 23)) (w.heap.size) 23 #[.int .i64 a.1, .int .i64 a.2] := (by have h := Blk.new w 23 #[.int .i64 a.1, .int .i64 a.2]; simpa using h)
  have B1n : Blk ((w.alloc (.cells #[.int .i64 a.1, .int .i64 a.2] 23)).alloc (.cells #[.int .i64 b.1, .int .i64 b.2] 23)) (w.heap.size + 1) 23 #[.int .i64 b.1, .int .i64 b.2] := (by have h := Blk.new (w.alloc (.cells #[.int .i64 a.1, .int .i64 a.2] 23)) 23 #[.int .i64 b.1, .int .i64 b.2]; simpa using h)
  have B2n : Blk (((w.alloc (.cells #[.int .i64 a.1, .int .i64 a.2] 23)).alloc (.cells #[.int .i64 b.1, .int .i64 b.2] 23)).alloc (.cells #[.int .i64 c.1, .int .i64 c.2] 23)) (w.heap.size + 2) 23 #[.int .i64 c.1, .int .i64 c.2] := (by have h := Blk.new ((w.alloc (.cells #[.int .i64 a.1, .int .i64 a.2] 23)).alloc (.cells #[.int .i64 b.1, .int .i64 b.2] 23)) 23 #[.int .i64 c.1, .int .i64 c.2]; simpa using h)
  have B0x := o.blk (t := 23) (cs := #[.int .i64 a.1, .int .i64 a.2]) (g := w.heap.size) (by first | exact ((B0n.alloc _).alloc _) | exact Blk.drewN ((B0n.alloc _).alloc _) _ | exact Blk.drew ((B0n.alloc _).alloc _)) (by simp)
  have B1x := o.blk (t := 23) (cs := #[.int .i64 b.1, .int .i64 b.2]) (g := w.heap.size + 1) (by first | exact (B1n.alloc _) | exact Blk.drewN (B1n.alloc _) _ | exact Blk.drew (B1n.alloc _)) (by simp)
  have B2x := o.blk (t := 23) (cs := #[.int .i64 c.1, .int .i64 c.2]) (g := w.heap.size + 2) (by first | exact B2n | exact Blk.drewN B2n _ | exact Blk.drew B2n) (by simp)
  have O1x : Only [] w w1 := (by first | exact Only.trans (((O0.out.alloc _).alloc _).alloc _) o (by simp) | exact Only.trans (Only.drewN (((O0.out.alloc _).alloc _).alloc _) _) o (by simp) | exact Only.trans (Only.drew (((O0.out.alloc _).alloc _).alloc _)) o (by simp))
  obtain ⟨B0c0, B0c1, B0l⟩ := B0x.facts2
  obtain ⟨B1c0, B1c1, B1l⟩ := B1x.facts2
  obtain ⟨B2c0, B2c1, B2l⟩ := B2x.facts2
  clear B0n B1n B2n O0 o
  have B0 := Lib.hid B0x; have B1 := Lib.hid B1x; have B2 := Lib.hid B2x; have O1 := Lib.hid O1x
  clear B0x B1x B2x O1x
  go_wp2_with (fail)
  refine (awake_any _).mono ?_
  rintro e w2 ⟨rfl, o⟩
  have B0x := o.blk (t := 23) (cs := #[.int .i64 a.1, .int .i64 a.2]) (g := w.heap.size) (by first | exact B0.out | exact Blk.drewN B0.out _ | exact Blk.drew B0.out) (by simp)
  have B1x := o.blk (t := 23) (cs := #[.int .i64 b.1, .int .i64 b.2]) (g := w.heap.size + 1) (by first | exact B1.out | exact Blk.drewN B1.out _ | exact Blk.drew B1.out) (by simp)
  have B2x := o.blk (t := 23) (cs := #[.int .i64 c.1, .int .i64 c.2]) (g := w.heap.size + 2) (by first | exact B2.out | exact Blk.drewN B2.out _ | exact Blk.drew B2.out) (by simp)
  have O2x : Only [] w w2 := (by first | exact Only.trans O1.out o (by simp) | exact Only.trans (Only.drewN O1.out _) o (by simp) | exact Only.trans (Only.drew O1.out) o (by simp))
  obtain ⟨B0c0, B0c1, B0l⟩ := B0x.facts2
  obtain ⟨B1c0, B1c1, B1l⟩ := B1x.facts2
  obtain ⟨B2c0, B2c1, B2l⟩ := B2x.facts2
  clear B0 B1 B2 O1 o
  have B0 := Lib.hid B0x; have B1 := Lib.hid B1x; have B2 := Lib.hid B2x; have O2 := Lib.hid O2x
  clear B0x B1x B2x O2x
  go_wp2_with (fail)
  refine (cmpr b a hb ha HY.out _).mono ?_
  rintro e w3 ⟨rfl, o⟩
  have B0x := o.blk (t := 23) (cs := #[.int .i64 a.1, .int .i64 a.2]) (g := w.heap.size) (by first | exact B0.out | exact Blk.drewN B0.out _ | exact Blk.drew B0.out) (by simp)
  have B1x := o.blk (t := 23) (cs := #[.int .i64 b.1, .int .i64 b.2]) (g := w.heap.size + 1) (by first | exact B1.out | exact Blk.drewN B1.out _ | exact Blk.drew B1.out) (by simp)
  have B2x := o.blk (t := 23) (cs := #[.int .i64 c.1, .int .i64 c.2]) (g := w.heap.size + 2) (by first | exact B2.out | exact Blk.drewN B2.out _ | exact Blk.drew B2.out) (by simp)
  have O3x : Only [] w w3 := (by first | exact Only.trans O2.out o (by simp) | exact Only.trans (Only.drewN O2.out _) o (by simp) | exact Only.trans (Only.drew O2.out) o (by simp))
  obtain ⟨B0c0, B0c1, B0l⟩ := B0x.facts2
  obtain ⟨B1c0, B1c1, B1l⟩ := B1x.facts2
  obtain ⟨B2c0, B2c1, B2l⟩ := B2x.facts2
  clear B0 B1 B2 O2 o
  have B0 := Lib.hid B0x; have B1 := Lib.hid B1x; have B2 := Lib.hid B2x; have O3 := Lib.hid O3x
  clear B0x B1x B2x O3x
  go_wp2_with (fail)
  refine (cmpr a a ha ha (cmp_self a) _).mono ?_
  rintro e w4 ⟨rfl, o⟩
  have B0x := o.blk (t := 23) (cs := #[.int .i64 a.1, .int .i64 a.2]) (g := w.heap.size) (by first | exact B0.out | exact Blk.drewN B0.out _ | exact Blk.drew B0.out) (by simp)
  have B1x := o.blk (t := 23) (cs := #[.int .i64 b.1, .int .i64 b.2]) (g := w.heap.size + 1) (by first | exact B1.out | exact Blk.drewN B1.out _ | exact Blk.drew B1.out) (by simp)
  have B2x := o.blk (t := 23) (cs := #[.int .i64 c.1, .int .i64 c.2]) (g := w.heap.size + 2) (by first | exact B2.out | exact Blk.drewN B2.out _ | exact Blk.drew B2.out) (by simp)
  have O4x : Only [] w w4 := (by first | exact Only.trans O3.out o (by simp) | exact Only.trans (Only.drewN O3.out _) o (by simp) | exact Only.trans (Only.drew O3.out) o (by simp))
  obtain ⟨B0c0, B0c1, B0l⟩ := B0x.facts2
  obtain ⟨B1c0, B1c1, B1l⟩ := B1x.facts2
  obtain ⟨B2c0, B2c1, B2l⟩ := B2x.facts2
  clear B0 B1 B2 O3 o
  have B0 := Lib.hid B0x; have B1 := Lib.hid B1x; have B2 := Lib.hid B2x; have O4 := Lib.hid O4x
  clear B0x B1x B2x O4x
  go_wp2_with (fail)
  refine (right_t ha.1 ha.2 RA.out _).mono ?_
  rintro e w5 ⟨rfl, o⟩
  have B0x := o.blk (t := 23) (cs := #[.int .i64 a.1, .int .i64 a.2]) (g := w.heap.size) (by first | exact B0.out | exact Blk.drewN B0.out _ | exact Blk.drew B0.out) (by simp)
  have B1x := o.blk (t := 23) (cs := #[.int .i64 b.1, .int .i64 b.2]) (g := w.heap.size + 1) (by first | exact B1.out | exact Blk.drewN B1.out _ | exact Blk.drew B1.out) (by simp)
  have B2x := o.blk (t := 23) (cs := #[.int .i64 c.1, .int .i64 c.2]) (g := w.heap.size + 2) (by first | exact B2.out | exact Blk.drewN B2.out _ | exact Blk.drew B2.out) (by simp)
  have O5x : Only [] w w5 := (by first | exact Only.trans O4.out o (by simp) | exact Only.trans (Only.drewN O4.out _) o (by simp) | exact Only.trans (Only.drew O4.out) o (by simp))
  obtain ⟨B0c0, B0c1, B0l⟩ := B0x.facts2
  obtain ⟨B1c0, B1c1, B1l⟩ := B1x.facts2
  obtain ⟨B2c0, B2c1, B2l⟩ := B2x.facts2
  clear B0 B1 B2 O4 o
  have B0 := Lib.hid B0x; have B1 := Lib.hid B1x; have B2 := Lib.hid B2x; have O5 := Lib.hid O5x
  clear B0x B1x B2x O5x
  go_wp2_with (fail)
  refine (right_f hb.1 hb.2 RB.out _).mono ?_
  rintro e w6 ⟨rfl, o⟩
  have B0x := o.blk (t := 23) (cs := #[.int .i64 a.1, .int .i64 a.2]) (g := w.heap.size) (by first | exact B0.out | exact Blk.drewN B0.out _ | exact Blk.drew B0.out) (by simp)
  have B1x := o.blk (t := 23) (cs := #[.int .i64 b.1, .int .i64 b.2]) (g := w.heap.size + 1) (by first | exact B1.out | exact Blk.drewN B1.out _ | exact Blk.drew B1.out) (by simp)
  have B2x := o.blk (t := 23) (cs := #[.int .i64 c.1, .int .i64 c.2]) (g := w.heap.size + 2) (by first | exact B2.out | exact Blk.drewN B2.out _ | exact Blk.drew B2.out) (by simp)
  have O6x : Only [] w w6 := (by first | exact Only.trans O5.out o (by simp) | exact Only.trans (Only.drewN O5.out _) o (by simp) | exact Only.trans (Only.drew O5.out) o (by simp))
  obtain ⟨B0c0, B0c1, B0l⟩ := B0x.facts2
  obtain ⟨B1c0, B1c1, B1l⟩ := B1x.facts2
  obtain ⟨B2c0, B2c1, B2l⟩ := B2x.facts2
  clear B0 B1 B2 O5 o
  have B0 := Lib.hid B0x; have B1 := Lib.hid B1x; have B2 := Lib.hid B2x; have O6 := Lib.hid O6x
  clear B0x B1x B2x O6x
  go_wp2_with (fail)
  go_ret
  exact ⟨rfl, by first | exact O6.out | exact Only.drewN O6.out _ | exact Only.drew O6.out⟩


set_option maxHeartbeats 2000000 in
theorem orders_w3m (a b c : Tm) (ha : a.ok) (hb : b.ok) (hc : c.ok) (hx : cmpT a b = (-1)) (hy : cmpT b a = 1) (ra : a.right = true) (rb : b.right = true) (rc : c.right = false) (w : World) :
    Calls Tryd.prog 7 #[.agg #[.int .i64 a.1, .int .i64 a.2], .agg #[.int .i64 b.1, .int .i64 b.2], .agg #[.int .i64 c.1, .int .i64 c.2]] w fun r w' => r = .returned (.bool true) ∧ Only [] w w' := by
  have HX := Lib.hid hx
  have HY := Lib.hid hy
  clear hx hy
  have RA := Lib.hid ra
  have RB := Lib.hid rb
  have RC := Lib.hid rc
  clear ra rb rc
  have O0 := Lib.hid (Only.refl [] w)
  go_enter Tryd.func7, Tryd.ntmps7
  go_wp2_with (fail)
  refine (cmpr a b ha hb HX.out _).mono ?_
  rintro e w1 ⟨rfl, o⟩
  have B0n : Blk (w.alloc (.cells #[.int .i64 a.1, .int .i64 a.2] 23)) (w.heap.size) 23 #[.int .i64 a.1, .int .i64 a.2] := (by have h := Blk.new w 23 #[.int .i64 a.1, .int .i64 a.2]; simpa using h)
  have B1n : Blk ((w.alloc (.cells #[.int .i64 a.1, .int .i64 a.2] 23)).alloc (.cells #[.int .i64 b.1, .int .i64 b.2] 23)) (w.heap.size + 1) 23 #[.int .i64 b.1, .int .i64 b.2] := (by have h := Blk.new (w.alloc (.cells #[.int .i64 a.1, .int .i64 a.2] 23)) 23 #[.int .i64 b.1, .int .i64 b.2]; simpa using h)
  have B2n : Blk (((w.alloc (.cells #[.int .i64 a.1, .int .i64 a.2] 23)).alloc (.cells #[.int .i64 b.1, .int .i64 b.2] 23)).alloc (.cells #[.int .i64 c.1, .int .i64 c.2] 23)) (w.heap.size + 2) 23 #[.int .i64 c.1, .int .i64 c.2] := (by have h := Blk.new ((w.alloc (.cells #[.int .i64 a.1, .int .i64 a.2] 23)).alloc (.cells #[.int .i64 b.1, .int .i64 b.2] 23)) 23 #[.int .i64 c.1, .int .i64 c.2]; simpa using h)
  have B0x := o.blk (t := 23) (cs := #[.int .i64 a.1, .int .i64 a.2]) (g := w.heap.size) (by first | exact ((B0n.alloc _).alloc _) | exact Blk.drewN ((B0n.alloc _).alloc _) _ | exact Blk.drew ((B0n.alloc _).alloc _)) (by simp)
  have B1x := o.blk (t := 23) (cs := #[.int .i64 b.1, .int .i64 b.2]) (g := w.heap.size + 1) (by first | exact (B1n.alloc _) | exact Blk.drewN (B1n.alloc _) _ | exact Blk.drew (B1n.alloc _)) (by simp)
  have B2x := o.blk (t := 23) (cs := #[.int .i64 c.1, .int .i64 c.2]) (g := w.heap.size + 2) (by first | exact B2n | exact Blk.drewN B2n _ | exact Blk.drew B2n) (by simp)
  have O1x : Only [] w w1 := (by first | exact Only.trans (((O0.out.alloc _).alloc _).alloc _) o (by simp) | exact Only.trans (Only.drewN (((O0.out.alloc _).alloc _).alloc _) _) o (by simp) | exact Only.trans (Only.drew (((O0.out.alloc _).alloc _).alloc _)) o (by simp))
  obtain ⟨B0c0, B0c1, B0l⟩ := B0x.facts2
  obtain ⟨B1c0, B1c1, B1l⟩ := B1x.facts2
  obtain ⟨B2c0, B2c1, B2l⟩ := B2x.facts2
  clear B0n B1n B2n O0 o
  have B0 := Lib.hid B0x; have B1 := Lib.hid B1x; have B2 := Lib.hid B2x; have O1 := Lib.hid O1x
  clear B0x B1x B2x O1x
  go_wp2_with (fail)
  refine (awake_any _).mono ?_
  rintro e w2 ⟨rfl, o⟩
  have B0x := o.blk (t := 23) (cs := #[.int .i64 a.1, .int .i64 a.2]) (g := w.heap.size) (by first | exact B0.out | exact Blk.drewN B0.out _ | exact Blk.drew B0.out) (by simp)
  have B1x := o.blk (t := 23) (cs := #[.int .i64 b.1, .int .i64 b.2]) (g := w.heap.size + 1) (by first | exact B1.out | exact Blk.drewN B1.out _ | exact Blk.drew B1.out) (by simp)
  have B2x := o.blk (t := 23) (cs := #[.int .i64 c.1, .int .i64 c.2]) (g := w.heap.size + 2) (by first | exact B2.out | exact Blk.drewN B2.out _ | exact Blk.drew B2.out) (by simp)
  have O2x : Only [] w w2 := (by first | exact Only.trans O1.out o (by simp) | exact Only.trans (Only.drewN O1.out _) o (by simp) | exact Only.trans (Only.drew O1.out) o (by simp))
  obtain ⟨B0c0, B0c1, B0l⟩ := B0x.facts2
  obtain ⟨B1c0, B1c1, B1l⟩ := B1x.facts2
  obtain ⟨B2c0, B2c1, B2l⟩ := B2x.facts2
  clear B0 B1 B2 O1 o
  have B0 := Lib.hid B0x; have B1 := Lib.hid B1x; have B2 := Lib.hid B2x; have O2 := Lib.hid O2x
  clear B0x B1x B2x O2x
  go_wp2_with (fail)
  refine (cmpr b a hb ha HY.out _).mono ?_
  rintro e w3 ⟨rfl, o⟩
  have B0x := o.blk (t := 23) (cs := #[.int .i64 a.1, .int .i64 a.2]) (g := w.heap.size) (by first | exact B0.out | exact Blk.drewN B0.out _ | exact Blk.drew B0.out) (by simp)
  have B1x := o.blk (t := 23) (cs := #[.int .i64 b.1, .int .i64 b.2]) (g := w.heap.size + 1) (by first | exact B1.out | exact Blk.drewN B1.out _ | exact Blk.drew B1.out) (by simp)
  have B2x := o.blk (t := 23) (cs := #[.int .i64 c.1, .int .i64 c.2]) (g := w.heap.size + 2) (by first | exact B2.out | exact Blk.drewN B2.out _ | exact Blk.drew B2.out) (by simp)
  have O3x : Only [] w w3 := (by first | exact Only.trans O2.out o (by simp) | exact Only.trans (Only.drewN O2.out _) o (by simp) | exact Only.trans (Only.drew O2.out) o (by simp))
  obtain ⟨B0c0, B0c1, B0l⟩ := B0x.facts2
  obtain ⟨B1c0, B1c1, B1l⟩ := B1x.facts2
  obtain ⟨B2c0, B2c1, B2l⟩ := B2x.facts2
  clear B0 B1 B2 O2 o
  have B0 := Lib.hid B0x; have B1 := Lib.hid B1x; have B2 := Lib.hid B2x; have O3 := Lib.hid O3x
  clear B0x B1x B2x O3x
  go_wp2_with (fail)
  refine (cmpr a a ha ha (cmp_self a) _).mono ?_
  rintro e w4 ⟨rfl, o⟩
  have B0x := o.blk (t := 23) (cs := #[.int .i64 a.1, .int .i64 a.2]) (g := w.heap.size) (by first | exact B0.out | exact Blk.drewN B0.out _ | exact Blk.drew B0.out) (by simp)
  have B1x := o.blk (t := 23) (cs := #[.int .i64 b.1, .int .i64 b.2]) (g := w.heap.size + 1) (by first | exact B1.out | exact Blk.drewN B1.out _ | exact Blk.drew B1.out) (by simp)
  have B2x := o.blk (t := 23) (cs := #[.int .i64 c.1, .int .i64 c.2]) (g := w.heap.size + 2) (by first | exact B2.out | exact Blk.drewN B2.out _ | exact Blk.drew B2.out) (by simp)
  have O4x : Only [] w w4 := (by first | exact Only.trans O3.out o (by simp) | exact Only.trans (Only.drewN O3.out _) o (by simp) | exact Only.trans (Only.drew O3.out) o (by simp))
  obtain ⟨B0c0, B0c1, B0l⟩ := B0x.facts2
  obtain ⟨B1c0, B1c1, B1l⟩ := B1x.facts2
  obtain ⟨B2c0, B2c1, B2l⟩ := B2x.facts2
  clear B0 B1 B2 O3 o
  have B0 := Lib.hid B0x; have B1 := Lib.hid B1x; have B2 := Lib.hid B2x; have O4 := Lib.hid O4x
  clear B0x B1x B2x O4x
  go_wp2_with (fail)
  refine (right_t ha.1 ha.2 RA.out _).mono ?_
  rintro e w5 ⟨rfl, o⟩
  have B0x := o.blk (t := 23) (cs := #[.int .i64 a.1, .int .i64 a.2]) (g := w.heap.size) (by first | exact B0.out | exact Blk.drewN B0.out _ | exact Blk.drew B0.out) (by simp)
  have B1x := o.blk (t := 23) (cs := #[.int .i64 b.1, .int .i64 b.2]) (g := w.heap.size + 1) (by first | exact B1.out | exact Blk.drewN B1.out _ | exact Blk.drew B1.out) (by simp)
  have B2x := o.blk (t := 23) (cs := #[.int .i64 c.1, .int .i64 c.2]) (g := w.heap.size + 2) (by first | exact B2.out | exact Blk.drewN B2.out _ | exact Blk.drew B2.out) (by simp)
  have O5x : Only [] w w5 := (by first | exact Only.trans O4.out o (by simp) | exact Only.trans (Only.drewN O4.out _) o (by simp) | exact Only.trans (Only.drew O4.out) o (by simp))
  obtain ⟨B0c0, B0c1, B0l⟩ := B0x.facts2
  obtain ⟨B1c0, B1c1, B1l⟩ := B1x.facts2
  obtain ⟨B2c0, B2c1, B2l⟩ := B2x.facts2
  clear B0 B1 B2 O4 o
  have B0 := Lib.hid B0x; have B1 := Lib.hid B1x; have B2 := Lib.hid B2x; have O5 := Lib.hid O5x
  clear B0x B1x B2x O5x
  go_wp2_with (fail)
  refine (right_t hb.1 hb.2 RB.out _).mono ?_
  rintro e w6 ⟨rfl, o⟩
  have B0x := o.blk (t := 23) (cs := #[.int .i64 a.1, .int .i64 a.2]) (g := w.heap.size) (by first | exact B0.out | exact Blk.drewN B0.out _ | exact Blk.drew B0.out) (by simp)
  have B1x := o.blk (t := 23) (cs := #[.int .i64 b.1, .int .i64 b.2]) (g := w.heap.size + 1) (by first | exact B1.out | exact Blk.drewN B1.out _ | exact Blk.drew B1.out) (by simp)
  have B2x := o.blk (t := 23) (cs := #[.int .i64 c.1, .int .i64 c.2]) (g := w.heap.size + 2) (by first | exact B2.out | exact Blk.drewN B2.out _ | exact Blk.drew B2.out) (by simp)
  have O6x : Only [] w w6 := (by first | exact Only.trans O5.out o (by simp) | exact Only.trans (Only.drewN O5.out _) o (by simp) | exact Only.trans (Only.drew O5.out) o (by simp))
  obtain ⟨B0c0, B0c1, B0l⟩ := B0x.facts2
  obtain ⟨B1c0, B1c1, B1l⟩ := B1x.facts2
  obtain ⟨B2c0, B2c1, B2l⟩ := B2x.facts2
  clear B0 B1 B2 O5 o
  have B0 := Lib.hid B0x; have B1 := Lib.hid B1x; have B2 := Lib.hid B2x; have O6 := Lib.hid O6x
  clear B0x B1x B2x O6x
  go_wp2_with (fail)
  refine (right_f hc.1 hc.2 RC.out _).mono ?_
  rintro e w7 ⟨rfl, o⟩
  have B0x := o.blk (t := 23) (cs := #[.int .i64 a.1, .int .i64 a.2]) (g := w.heap.size) (by first | exact B0.out | exact Blk.drewN B0.out _ | exact Blk.drew B0.out) (by simp)
  have B1x := o.blk (t := 23) (cs := #[.int .i64 b.1, .int .i64 b.2]) (g := w.heap.size + 1) (by first | exact B1.out | exact Blk.drewN B1.out _ | exact Blk.drew B1.out) (by simp)
  have B2x := o.blk (t := 23) (cs := #[.int .i64 c.1, .int .i64 c.2]) (g := w.heap.size + 2) (by first | exact B2.out | exact Blk.drewN B2.out _ | exact Blk.drew B2.out) (by simp)
  have O7x : Only [] w w7 := (by first | exact Only.trans O6.out o (by simp) | exact Only.trans (Only.drewN O6.out _) o (by simp) | exact Only.trans (Only.drew O6.out) o (by simp))
  obtain ⟨B0c0, B0c1, B0l⟩ := B0x.facts2
  obtain ⟨B1c0, B1c1, B1l⟩ := B1x.facts2
  obtain ⟨B2c0, B2c1, B2l⟩ := B2x.facts2
  clear B0 B1 B2 O6 o
  have B0 := Lib.hid B0x; have B1 := Lib.hid B1x; have B2 := Lib.hid B2x; have O7 := Lib.hid O7x
  clear B0x B1x B2x O7x
  go_wp2_with (fail)
  go_ret
  exact ⟨rfl, by first | exact O7.out | exact Only.drewN O7.out _ | exact Only.drew O7.out⟩


set_option maxHeartbeats 2000000 in
theorem orders_w3z (a b c : Tm) (ha : a.ok) (hb : b.ok) (hc : c.ok) (hx : cmpT a b = 0) (hy : cmpT b a = 0) (ra : a.right = true) (rb : b.right = true) (rc : c.right = false) (w : World) :
    Calls Tryd.prog 7 #[.agg #[.int .i64 a.1, .int .i64 a.2], .agg #[.int .i64 b.1, .int .i64 b.2], .agg #[.int .i64 c.1, .int .i64 c.2]] w fun r w' => r = .returned (.bool true) ∧ Only [] w w' := by
  have HX := Lib.hid hx
  have HY := Lib.hid hy
  clear hx hy
  have RA := Lib.hid ra
  have RB := Lib.hid rb
  have RC := Lib.hid rc
  clear ra rb rc
  have O0 := Lib.hid (Only.refl [] w)
  go_enter Tryd.func7, Tryd.ntmps7
  go_wp2_with (fail)
  refine (cmpr a b ha hb HX.out _).mono ?_
  rintro e w1 ⟨rfl, o⟩
  have B0n : Blk (w.alloc (.cells #[.int .i64 a.1, .int .i64 a.2] 23)) (w.heap.size) 23 #[.int .i64 a.1, .int .i64 a.2] := (by have h := Blk.new w 23 #[.int .i64 a.1, .int .i64 a.2]; simpa using h)
  have B1n : Blk ((w.alloc (.cells #[.int .i64 a.1, .int .i64 a.2] 23)).alloc (.cells #[.int .i64 b.1, .int .i64 b.2] 23)) (w.heap.size + 1) 23 #[.int .i64 b.1, .int .i64 b.2] := (by have h := Blk.new (w.alloc (.cells #[.int .i64 a.1, .int .i64 a.2] 23)) 23 #[.int .i64 b.1, .int .i64 b.2]; simpa using h)
  have B2n : Blk (((w.alloc (.cells #[.int .i64 a.1, .int .i64 a.2] 23)).alloc (.cells #[.int .i64 b.1, .int .i64 b.2] 23)).alloc (.cells #[.int .i64 c.1, .int .i64 c.2] 23)) (w.heap.size + 2) 23 #[.int .i64 c.1, .int .i64 c.2] := (by have h := Blk.new ((w.alloc (.cells #[.int .i64 a.1, .int .i64 a.2] 23)).alloc (.cells #[.int .i64 b.1, .int .i64 b.2] 23)) 23 #[.int .i64 c.1, .int .i64 c.2]; simpa using h)
  have B0x := o.blk (t := 23) (cs := #[.int .i64 a.1, .int .i64 a.2]) (g := w.heap.size) (by first | exact ((B0n.alloc _).alloc _) | exact Blk.drewN ((B0n.alloc _).alloc _) _ | exact Blk.drew ((B0n.alloc _).alloc _)) (by simp)
  have B1x := o.blk (t := 23) (cs := #[.int .i64 b.1, .int .i64 b.2]) (g := w.heap.size + 1) (by first | exact (B1n.alloc _) | exact Blk.drewN (B1n.alloc _) _ | exact Blk.drew (B1n.alloc _)) (by simp)
  have B2x := o.blk (t := 23) (cs := #[.int .i64 c.1, .int .i64 c.2]) (g := w.heap.size + 2) (by first | exact B2n | exact Blk.drewN B2n _ | exact Blk.drew B2n) (by simp)
  have O1x : Only [] w w1 := (by first | exact Only.trans (((O0.out.alloc _).alloc _).alloc _) o (by simp) | exact Only.trans (Only.drewN (((O0.out.alloc _).alloc _).alloc _) _) o (by simp) | exact Only.trans (Only.drew (((O0.out.alloc _).alloc _).alloc _)) o (by simp))
  obtain ⟨B0c0, B0c1, B0l⟩ := B0x.facts2
  obtain ⟨B1c0, B1c1, B1l⟩ := B1x.facts2
  obtain ⟨B2c0, B2c1, B2l⟩ := B2x.facts2
  clear B0n B1n B2n O0 o
  have B0 := Lib.hid B0x; have B1 := Lib.hid B1x; have B2 := Lib.hid B2x; have O1 := Lib.hid O1x
  clear B0x B1x B2x O1x
  go_wp2_with (fail)
  refine (awake_any _).mono ?_
  rintro e w2 ⟨rfl, o⟩
  have B0x := o.blk (t := 23) (cs := #[.int .i64 a.1, .int .i64 a.2]) (g := w.heap.size) (by first | exact B0.out | exact Blk.drewN B0.out _ | exact Blk.drew B0.out) (by simp)
  have B1x := o.blk (t := 23) (cs := #[.int .i64 b.1, .int .i64 b.2]) (g := w.heap.size + 1) (by first | exact B1.out | exact Blk.drewN B1.out _ | exact Blk.drew B1.out) (by simp)
  have B2x := o.blk (t := 23) (cs := #[.int .i64 c.1, .int .i64 c.2]) (g := w.heap.size + 2) (by first | exact B2.out | exact Blk.drewN B2.out _ | exact Blk.drew B2.out) (by simp)
  have O2x : Only [] w w2 := (by first | exact Only.trans O1.out o (by simp) | exact Only.trans (Only.drewN O1.out _) o (by simp) | exact Only.trans (Only.drew O1.out) o (by simp))
  obtain ⟨B0c0, B0c1, B0l⟩ := B0x.facts2
  obtain ⟨B1c0, B1c1, B1l⟩ := B1x.facts2
  obtain ⟨B2c0, B2c1, B2l⟩ := B2x.facts2
  clear B0 B1 B2 O1 o
  have B0 := Lib.hid B0x; have B1 := Lib.hid B1x; have B2 := Lib.hid B2x; have O2 := Lib.hid O2x
  clear B0x B1x B2x O2x
  go_wp2_with (fail)
  refine (cmpr b a hb ha HY.out _).mono ?_
  rintro e w3 ⟨rfl, o⟩
  have B0x := o.blk (t := 23) (cs := #[.int .i64 a.1, .int .i64 a.2]) (g := w.heap.size) (by first | exact B0.out | exact Blk.drewN B0.out _ | exact Blk.drew B0.out) (by simp)
  have B1x := o.blk (t := 23) (cs := #[.int .i64 b.1, .int .i64 b.2]) (g := w.heap.size + 1) (by first | exact B1.out | exact Blk.drewN B1.out _ | exact Blk.drew B1.out) (by simp)
  have B2x := o.blk (t := 23) (cs := #[.int .i64 c.1, .int .i64 c.2]) (g := w.heap.size + 2) (by first | exact B2.out | exact Blk.drewN B2.out _ | exact Blk.drew B2.out) (by simp)
  have O3x : Only [] w w3 := (by first | exact Only.trans O2.out o (by simp) | exact Only.trans (Only.drewN O2.out _) o (by simp) | exact Only.trans (Only.drew O2.out) o (by simp))
  obtain ⟨B0c0, B0c1, B0l⟩ := B0x.facts2
  obtain ⟨B1c0, B1c1, B1l⟩ := B1x.facts2
  obtain ⟨B2c0, B2c1, B2l⟩ := B2x.facts2
  clear B0 B1 B2 O2 o
  have B0 := Lib.hid B0x; have B1 := Lib.hid B1x; have B2 := Lib.hid B2x; have O3 := Lib.hid O3x
  clear B0x B1x B2x O3x
  go_wp2_with (fail)
  refine (cmpr a a ha ha (cmp_self a) _).mono ?_
  rintro e w4 ⟨rfl, o⟩
  have B0x := o.blk (t := 23) (cs := #[.int .i64 a.1, .int .i64 a.2]) (g := w.heap.size) (by first | exact B0.out | exact Blk.drewN B0.out _ | exact Blk.drew B0.out) (by simp)
  have B1x := o.blk (t := 23) (cs := #[.int .i64 b.1, .int .i64 b.2]) (g := w.heap.size + 1) (by first | exact B1.out | exact Blk.drewN B1.out _ | exact Blk.drew B1.out) (by simp)
  have B2x := o.blk (t := 23) (cs := #[.int .i64 c.1, .int .i64 c.2]) (g := w.heap.size + 2) (by first | exact B2.out | exact Blk.drewN B2.out _ | exact Blk.drew B2.out) (by simp)
  have O4x : Only [] w w4 := (by first | exact Only.trans O3.out o (by simp) | exact Only.trans (Only.drewN O3.out _) o (by simp) | exact Only.trans (Only.drew O3.out) o (by simp))
  obtain ⟨B0c0, B0c1, B0l⟩ := B0x.facts2
  obtain ⟨B1c0, B1c1, B1l⟩ := B1x.facts2
  obtain ⟨B2c0, B2c1, B2l⟩ := B2x.facts2
  clear B0 B1 B2 O3 o
  have B0 := Lib.hid B0x; have B1 := Lib.hid B1x; have B2 := Lib.hid B2x; have O4 := Lib.hid O4x
  clear B0x B1x B2x O4x
  go_wp2_with (fail)
  refine (right_t ha.1 ha.2 RA.out _).mono ?_
  rintro e w5 ⟨rfl, o⟩
  have B0x := o.blk (t := 23) (cs := #[.int .i64 a.1, .int .i64 a.2]) (g := w.heap.size) (by first | exact B0.out | exact Blk.drewN B0.out _ | exact Blk.drew B0.out) (by simp)
  have B1x := o.blk (t := 23) (cs := #[.int .i64 b.1, .int .i64 b.2]) (g := w.heap.size + 1) (by first | exact B1.out | exact Blk.drewN B1.out _ | exact Blk.drew B1.out) (by simp)
  have B2x := o.blk (t := 23) (cs := #[.int .i64 c.1, .int .i64 c.2]) (g := w.heap.size + 2) (by first | exact B2.out | exact Blk.drewN B2.out _ | exact Blk.drew B2.out) (by simp)
  have O5x : Only [] w w5 := (by first | exact Only.trans O4.out o (by simp) | exact Only.trans (Only.drewN O4.out _) o (by simp) | exact Only.trans (Only.drew O4.out) o (by simp))
  obtain ⟨B0c0, B0c1, B0l⟩ := B0x.facts2
  obtain ⟨B1c0, B1c1, B1l⟩ := B1x.facts2
  obtain ⟨B2c0, B2c1, B2l⟩ := B2x.facts2
  clear B0 B1 B2 O4 o
  have B0 := Lib.hid B0x; have B1 := Lib.hid B1x; have B2 := Lib.hid B2x; have O5 := Lib.hid O5x
  clear B0x B1x B2x O5x
  go_wp2_with (fail)
  refine (right_t hb.1 hb.2 RB.out _).mono ?_
  rintro e w6 ⟨rfl, o⟩
  have B0x := o.blk (t := 23) (cs := #[.int .i64 a.1, .int .i64 a.2]) (g := w.heap.size) (by first | exact B0.out | exact Blk.drewN B0.out _ | exact Blk.drew B0.out) (by simp)
  have B1x := o.blk (t := 23) (cs := #[.int .i64 b.1, .int .i64 b.2]) (g := w.heap.size + 1) (by first | exact B1.out | exact Blk.drewN B1.out _ | exact Blk.drew B1.out) (by simp)
  have B2x := o.blk (t := 23) (cs := #[.int .i64 c.1, .int .i64 c.2]) (g := w.heap.size + 2) (by first | exact B2.out | exact Blk.drewN B2.out _ | exact Blk.drew B2.out) (by simp)
  have O6x : Only [] w w6 := (by first | exact Only.trans O5.out o (by simp) | exact Only.trans (Only.drewN O5.out _) o (by simp) | exact Only.trans (Only.drew O5.out) o (by simp))
  obtain ⟨B0c0, B0c1, B0l⟩ := B0x.facts2
  obtain ⟨B1c0, B1c1, B1l⟩ := B1x.facts2
  obtain ⟨B2c0, B2c1, B2l⟩ := B2x.facts2
  clear B0 B1 B2 O5 o
  have B0 := Lib.hid B0x; have B1 := Lib.hid B1x; have B2 := Lib.hid B2x; have O6 := Lib.hid O6x
  clear B0x B1x B2x O6x
  go_wp2_with (fail)
  refine (right_f hc.1 hc.2 RC.out _).mono ?_
  rintro e w7 ⟨rfl, o⟩
  have B0x := o.blk (t := 23) (cs := #[.int .i64 a.1, .int .i64 a.2]) (g := w.heap.size) (by first | exact B0.out | exact Blk.drewN B0.out _ | exact Blk.drew B0.out) (by simp)
  have B1x := o.blk (t := 23) (cs := #[.int .i64 b.1, .int .i64 b.2]) (g := w.heap.size + 1) (by first | exact B1.out | exact Blk.drewN B1.out _ | exact Blk.drew B1.out) (by simp)
  have B2x := o.blk (t := 23) (cs := #[.int .i64 c.1, .int .i64 c.2]) (g := w.heap.size + 2) (by first | exact B2.out | exact Blk.drewN B2.out _ | exact Blk.drew B2.out) (by simp)
  have O7x : Only [] w w7 := (by first | exact Only.trans O6.out o (by simp) | exact Only.trans (Only.drewN O6.out _) o (by simp) | exact Only.trans (Only.drew O6.out) o (by simp))
  obtain ⟨B0c0, B0c1, B0l⟩ := B0x.facts2
  obtain ⟨B1c0, B1c1, B1l⟩ := B1x.facts2
  obtain ⟨B2c0, B2c1, B2l⟩ := B2x.facts2
  clear B0 B1 B2 O6 o
  have B0 := Lib.hid B0x; have B1 := Lib.hid B1x; have B2 := Lib.hid B2x; have O7 := Lib.hid O7x
  clear B0x B1x B2x O7x
  go_wp2_with (fail)
  go_ret
  exact ⟨rfl, by first | exact O7.out | exact Only.drewN O7.out _ | exact Only.drew O7.out⟩


set_option maxHeartbeats 2000000 in
theorem orders_w3p (a b c : Tm) (ha : a.ok) (hb : b.ok) (hc : c.ok) (hx : cmpT a b = 1) (hy : cmpT b a = (-1)) (ra : a.right = true) (rb : b.right = true) (rc : c.right = false) (w : World) :
    Calls Tryd.prog 7 #[.agg #[.int .i64 a.1, .int .i64 a.2], .agg #[.int .i64 b.1, .int .i64 b.2], .agg #[.int .i64 c.1, .int .i64 c.2]] w fun r w' => r = .returned (.bool true) ∧ Only [] w w' := by
  have HX := Lib.hid hx
  have HY := Lib.hid hy
  clear hx hy
  have RA := Lib.hid ra
  have RB := Lib.hid rb
  have RC := Lib.hid rc
  clear ra rb rc
  have O0 := Lib.hid (Only.refl [] w)
  go_enter Tryd.func7, Tryd.ntmps7
  go_wp2_with (fail)
  refine (cmpr a b ha hb HX.out _).mono ?_
  rintro e w1 ⟨rfl, o⟩
  have B0n : Blk (w.alloc (.cells #[.int .i64 a.1, .int .i64 a.2] 23)) (w.heap.size) 23 #[.int .i64 a.1, .int .i64 a.2] := (by have h := Blk.new w 23 #[.int .i64 a.1, .int .i64 a.2]; simpa using h)
  have B1n : Blk ((w.alloc (.cells #[.int .i64 a.1, .int .i64 a.2] 23)).alloc (.cells #[.int .i64 b.1, .int .i64 b.2] 23)) (w.heap.size + 1) 23 #[.int .i64 b.1, .int .i64 b.2] := (by have h := Blk.new (w.alloc (.cells #[.int .i64 a.1, .int .i64 a.2] 23)) 23 #[.int .i64 b.1, .int .i64 b.2]; simpa using h)
  have B2n : Blk (((w.alloc (.cells #[.int .i64 a.1, .int .i64 a.2] 23)).alloc (.cells #[.int .i64 b.1, .int .i64 b.2] 23)).alloc (.cells #[.int .i64 c.1, .int .i64 c.2] 23)) (w.heap.size + 2) 23 #[.int .i64 c.1, .int .i64 c.2] := (by have h := Blk.new ((w.alloc (.cells #[.int .i64 a.1, .int .i64 a.2] 23)).alloc (.cells #[.int .i64 b.1, .int .i64 b.2] 23)) 23 #[.int .i64 c.1, .int .i64 c.2]; simpa using h)
  have B0x := o.blk (t := 23) (cs := #[.int .i64 a.1, .int .i64 a.2]) (g := w.heap.size) (by first | exact ((B0n.alloc _).alloc _) | exact Blk.drewN ((B0n.alloc _).alloc _) _ | exact Blk.drew ((B0n.alloc _).alloc _)) (by simp)
  have B1x := o.blk (t := 23) (cs := #[.int .i64 b.1, .int .i64 b.2]) (g := w.heap.size + 1) (by first | exact (B1n.alloc _) | exact Blk.drewN (B1n.alloc _) _ | exact Blk.drew (B1n.alloc _)) (by simp)
  have B2x := o.blk (t := 23) (cs := #[.int .i64 c.1, .int .i64 c.2]) (g := w.heap.size + 2) (by first | exact B2n | exact Blk.drewN B2n _ | exact Blk.drew B2n) (by simp)
  have O1x : Only [] w w1 := (by first | exact Only.trans (((O0.out.alloc _).alloc _).alloc _) o (by simp) | exact Only.trans (Only.drewN (((O0.out.alloc _).alloc _).alloc _) _) o (by simp) | exact Only.trans (Only.drew (((O0.out.alloc _).alloc _).alloc _)) o (by simp))
  obtain ⟨B0c0, B0c1, B0l⟩ := B0x.facts2
  obtain ⟨B1c0, B1c1, B1l⟩ := B1x.facts2
  obtain ⟨B2c0, B2c1, B2l⟩ := B2x.facts2
  clear B0n B1n B2n O0 o
  have B0 := Lib.hid B0x; have B1 := Lib.hid B1x; have B2 := Lib.hid B2x; have O1 := Lib.hid O1x
  clear B0x B1x B2x O1x
  go_wp2_with (fail)
  refine (awake_any _).mono ?_
  rintro e w2 ⟨rfl, o⟩
  have B0x := o.blk (t := 23) (cs := #[.int .i64 a.1, .int .i64 a.2]) (g := w.heap.size) (by first | exact B0.out | exact Blk.drewN B0.out _ | exact Blk.drew B0.out) (by simp)
  have B1x := o.blk (t := 23) (cs := #[.int .i64 b.1, .int .i64 b.2]) (g := w.heap.size + 1) (by first | exact B1.out | exact Blk.drewN B1.out _ | exact Blk.drew B1.out) (by simp)
  have B2x := o.blk (t := 23) (cs := #[.int .i64 c.1, .int .i64 c.2]) (g := w.heap.size + 2) (by first | exact B2.out | exact Blk.drewN B2.out _ | exact Blk.drew B2.out) (by simp)
  have O2x : Only [] w w2 := (by first | exact Only.trans O1.out o (by simp) | exact Only.trans (Only.drewN O1.out _) o (by simp) | exact Only.trans (Only.drew O1.out) o (by simp))
  obtain ⟨B0c0, B0c1, B0l⟩ := B0x.facts2
  obtain ⟨B1c0, B1c1, B1l⟩ := B1x.facts2
  obtain ⟨B2c0, B2c1, B2l⟩ := B2x.facts2
  clear B0 B1 B2 O1 o
  have B0 := Lib.hid B0x; have B1 := Lib.hid B1x; have B2 := Lib.hid B2x; have O2 := Lib.hid O2x
  clear B0x B1x B2x O2x
  go_wp2_with (fail)
  refine (cmpr b a hb ha HY.out _).mono ?_
  rintro e w3 ⟨rfl, o⟩
  have B0x := o.blk (t := 23) (cs := #[.int .i64 a.1, .int .i64 a.2]) (g := w.heap.size) (by first | exact B0.out | exact Blk.drewN B0.out _ | exact Blk.drew B0.out) (by simp)
  have B1x := o.blk (t := 23) (cs := #[.int .i64 b.1, .int .i64 b.2]) (g := w.heap.size + 1) (by first | exact B1.out | exact Blk.drewN B1.out _ | exact Blk.drew B1.out) (by simp)
  have B2x := o.blk (t := 23) (cs := #[.int .i64 c.1, .int .i64 c.2]) (g := w.heap.size + 2) (by first | exact B2.out | exact Blk.drewN B2.out _ | exact Blk.drew B2.out) (by simp)
  have O3x : Only [] w w3 := (by first | exact Only.trans O2.out o (by simp) | exact Only.trans (Only.drewN O2.out _) o (by simp) | exact Only.trans (Only.drew O2.out) o (by simp))
  obtain ⟨B0c0, B0c1, B0l⟩ := B0x.facts2
  obtain ⟨B1c0, B1c1, B1l⟩ := B1x.facts2
  obtain ⟨B2c0, B2c1, B2l⟩ := B2x.facts2
  clear B0 B1 B2 O2 o
  have B0 := Lib.hid B0x; have B1 := Lib.hid B1x; have B2 := Lib.hid B2x; have O3 := Lib.hid O3x
  clear B0x B1x B2x O3x
  go_wp2_with (fail)
  refine (cmpr a a ha ha (cmp_self a) _).mono ?_
  rintro e w4 ⟨rfl, o⟩
  have B0x := o.blk (t := 23) (cs := #[.int .i64 a.1, .int .i64 a.2]) (g := w.heap.size) (by first | exact B0.out | exact Blk.drewN B0.out _ | exact Blk.drew B0.out) (by simp)
  have B1x := o.blk (t := 23) (cs := #[.int .i64 b.1, .int .i64 b.2]) (g := w.heap.size + 1) (by first | exact B1.out | exact Blk.drewN B1.out _ | exact Blk.drew B1.out) (by simp)
  have B2x := o.blk (t := 23) (cs := #[.int .i64 c.1, .int .i64 c.2]) (g := w.heap.size + 2) (by first | exact B2.out | exact Blk.drewN B2.out _ | exact Blk.drew B2.out) (by simp)
  have O4x : Only [] w w4 := (by first | exact Only.trans O3.out o (by simp) | exact Only.trans (Only.drewN O3.out _) o (by simp) | exact Only.trans (Only.drew O3.out) o (by simp))
  obtain ⟨B0c0, B0c1, B0l⟩ := B0x.facts2
  obtain ⟨B1c0, B1c1, B1l⟩ := B1x.facts2
  obtain ⟨B2c0, B2c1, B2l⟩ := B2x.facts2
  clear B0 B1 B2 O3 o
  have B0 := Lib.hid B0x; have B1 := Lib.hid B1x; have B2 := Lib.hid B2x; have O4 := Lib.hid O4x
  clear B0x B1x B2x O4x
  go_wp2_with (fail)
  refine (right_t ha.1 ha.2 RA.out _).mono ?_
  rintro e w5 ⟨rfl, o⟩
  have B0x := o.blk (t := 23) (cs := #[.int .i64 a.1, .int .i64 a.2]) (g := w.heap.size) (by first | exact B0.out | exact Blk.drewN B0.out _ | exact Blk.drew B0.out) (by simp)
  have B1x := o.blk (t := 23) (cs := #[.int .i64 b.1, .int .i64 b.2]) (g := w.heap.size + 1) (by first | exact B1.out | exact Blk.drewN B1.out _ | exact Blk.drew B1.out) (by simp)
  have B2x := o.blk (t := 23) (cs := #[.int .i64 c.1, .int .i64 c.2]) (g := w.heap.size + 2) (by first | exact B2.out | exact Blk.drewN B2.out _ | exact Blk.drew B2.out) (by simp)
  have O5x : Only [] w w5 := (by first | exact Only.trans O4.out o (by simp) | exact Only.trans (Only.drewN O4.out _) o (by simp) | exact Only.trans (Only.drew O4.out) o (by simp))
  obtain ⟨B0c0, B0c1, B0l⟩ := B0x.facts2
  obtain ⟨B1c0, B1c1, B1l⟩ := B1x.facts2
  obtain ⟨B2c0, B2c1, B2l⟩ := B2x.facts2
  clear B0 B1 B2 O4 o
  have B0 := Lib.hid B0x; have B1 := Lib.hid B1x; have B2 := Lib.hid B2x; have O5 := Lib.hid O5x
  clear B0x B1x B2x O5x
  go_wp2_with (fail)
  refine (right_t hb.1 hb.2 RB.out _).mono ?_
  rintro e w6 ⟨rfl, o⟩
  have B0x := o.blk (t := 23) (cs := #[.int .i64 a.1, .int .i64 a.2]) (g := w.heap.size) (by first | exact B0.out | exact Blk.drewN B0.out _ | exact Blk.drew B0.out) (by simp)
  have B1x := o.blk (t := 23) (cs := #[.int .i64 b.1, .int .i64 b.2]) (g := w.heap.size + 1) (by first | exact B1.out | exact Blk.drewN B1.out _ | exact Blk.drew B1.out) (by simp)
  have B2x := o.blk (t := 23) (cs := #[.int .i64 c.1, .int .i64 c.2]) (g := w.heap.size + 2) (by first | exact B2.out | exact Blk.drewN B2.out _ | exact Blk.drew B2.out) (by simp)
  have O6x : Only [] w w6 := (by first | exact Only.trans O5.out o (by simp) | exact Only.trans (Only.drewN O5.out _) o (by simp) | exact Only.trans (Only.drew O5.out) o (by simp))
  obtain ⟨B0c0, B0c1, B0l⟩ := B0x.facts2
  obtain ⟨B1c0, B1c1, B1l⟩ := B1x.facts2
  obtain ⟨B2c0, B2c1, B2l⟩ := B2x.facts2
  clear B0 B1 B2 O5 o
  have B0 := Lib.hid B0x; have B1 := Lib.hid B1x; have B2 := Lib.hid B2x; have O6 := Lib.hid O6x
  clear B0x B1x B2x O6x
  go_wp2_with (fail)
  refine (right_f hc.1 hc.2 RC.out _).mono ?_
  rintro e w7 ⟨rfl, o⟩
  have B0x := o.blk (t := 23) (cs := #[.int .i64 a.1, .int .i64 a.2]) (g := w.heap.size) (by first | exact B0.out | exact Blk.drewN B0.out _ | exact Blk.drew B0.out) (by simp)
  have B1x := o.blk (t := 23) (cs := #[.int .i64 b.1, .int .i64 b.2]) (g := w.heap.size + 1) (by first | exact B1.out | exact Blk.drewN B1.out _ | exact Blk.drew B1.out) (by simp)
  have B2x := o.blk (t := 23) (cs := #[.int .i64 c.1, .int .i64 c.2]) (g := w.heap.size + 2) (by first | exact B2.out | exact Blk.drewN B2.out _ | exact Blk.drew B2.out) (by simp)
  have O7x : Only [] w w7 := (by first | exact Only.trans O6.out o (by simp) | exact Only.trans (Only.drewN O6.out _) o (by simp) | exact Only.trans (Only.drew O6.out) o (by simp))
  obtain ⟨B0c0, B0c1, B0l⟩ := B0x.facts2
  obtain ⟨B1c0, B1c1, B1l⟩ := B1x.facts2
  obtain ⟨B2c0, B2c1, B2l⟩ := B2x.facts2
  clear B0 B1 B2 O6 o
  have B0 := Lib.hid B0x; have B1 := Lib.hid B1x; have B2 := Lib.hid B2x; have O7 := Lib.hid O7x
  clear B0x B1x B2x O7x
  go_wp2_with (fail)
  go_ret
  exact ⟨rfl, by first | exact O7.out | exact Only.drewN O7.out _ | exact Only.drew O7.out⟩


set_option maxHeartbeats 2000000 in
theorem orders_p_e (a b c : Tm) (ha : a.ok) (hb : b.ok) (hc : c.ok) (hx : cmpT a b = 1) (hy : cmpT b a = (-1)) (ra : a.right = true) (rb : b.right = true) (rc : Tm.right c = true) (hne : a ≠ b) {s t : Tm} {e f : Int} (h1 : addT a c = (s, e)) (h2 : addT b c = (t, f)) (he : e ≠ 0) (w : World) :
    Calls Tryd.prog 7 #[.agg #[.int .i64 a.1, .int .i64 a.2], .agg #[.int .i64 b.1, .int .i64 b.2], .agg #[.int .i64 c.1, .int .i64 c.2]] w fun r w' => r = .returned (.bool true) ∧ Only [] w w' := by
  have HX := Lib.hid hx
  have HY := Lib.hid hy
  clear hx hy
  have RA := Lib.hid ra
  have RB := Lib.hid rb
  have RC := Lib.hid rc
  clear ra rb rc
  have hEQ := eq_timesF hne
  clear hne
  have H1 := Lib.hid h1
  have H2 := Lib.hid h2
  clear h1 h2
  have he' : (e != 0) = true := by simpa using he
  clear he
  have O0 := Lib.hid (Only.refl [] w)
  go_enter Tryd.func7, Tryd.ntmps7
  go_wp2_with (fail)
  refine (cmpr a b ha hb HX.out _).mono ?_
  rintro e w1 ⟨rfl, o⟩
  have B0n : Blk (w.alloc (.cells #[.int .i64 a.1, .int .i64 a.2] 23)) (w.heap.size) 23 #[.int .i64 a.1, .int .i64 a.2] := (by have h := Blk.new w 23 #[.int .i64 a.1, .int .i64 a.2]; simpa using h)
  have B1n : Blk ((w.alloc (.cells #[.int .i64 a.1, .int .i64 a.2] 23)).alloc (.cells #[.int .i64 b.1, .int .i64 b.2] 23)) (w.heap.size + 1) 23 #[.int .i64 b.1, .int .i64 b.2] := (by have h := Blk.new (w.alloc (.cells #[.int .i64 a.1, .int .i64 a.2] 23)) 23 #[.int .i64 b.1, .int .i64 b.2]; simpa using h)
  have B2n : Blk (((w.alloc (.cells #[.int .i64 a.1, .int .i64 a.2] 23)).alloc (.cells #[.int .i64 b.1, .int .i64 b.2] 23)).alloc (.cells #[.int .i64 c.1, .int .i64 c.2] 23)) (w.heap.size + 2) 23 #[.int .i64 c.1, .int .i64 c.2] := (by have h := Blk.new ((w.alloc (.cells #[.int .i64 a.1, .int .i64 a.2] 23)).alloc (.cells #[.int .i64 b.1, .int .i64 b.2] 23)) 23 #[.int .i64 c.1, .int .i64 c.2]; simpa using h)
  have B0x := o.blk (t := 23) (cs := #[.int .i64 a.1, .int .i64 a.2]) (g := w.heap.size) (by first | exact ((B0n.alloc _).alloc _) | exact Blk.drewN ((B0n.alloc _).alloc _) _ | exact Blk.drew ((B0n.alloc _).alloc _)) (by simp)
  have B1x := o.blk (t := 23) (cs := #[.int .i64 b.1, .int .i64 b.2]) (g := w.heap.size + 1) (by first | exact (B1n.alloc _) | exact Blk.drewN (B1n.alloc _) _ | exact Blk.drew (B1n.alloc _)) (by simp)
  have B2x := o.blk (t := 23) (cs := #[.int .i64 c.1, .int .i64 c.2]) (g := w.heap.size + 2) (by first | exact B2n | exact Blk.drewN B2n _ | exact Blk.drew B2n) (by simp)
  have O1x : Only [] w w1 := (by first | exact Only.trans (((O0.out.alloc _).alloc _).alloc _) o (by simp) | exact Only.trans (Only.drewN (((O0.out.alloc _).alloc _).alloc _) _) o (by simp) | exact Only.trans (Only.drew (((O0.out.alloc _).alloc _).alloc _)) o (by simp))
  obtain ⟨B0c0, B0c1, B0l⟩ := B0x.facts2
  obtain ⟨B1c0, B1c1, B1l⟩ := B1x.facts2
  obtain ⟨B2c0, B2c1, B2l⟩ := B2x.facts2
  clear B0n B1n B2n O0 o
  have B0 := Lib.hid B0x; have B1 := Lib.hid B1x; have B2 := Lib.hid B2x; have O1 := Lib.hid O1x
  clear B0x B1x B2x O1x
  go_wp2_with (fail)
  refine (awake_any _).mono ?_
  rintro e w2 ⟨rfl, o⟩
  have B0x := o.blk (t := 23) (cs := #[.int .i64 a.1, .int .i64 a.2]) (g := w.heap.size) (by first | exact B0.out | exact Blk.drewN B0.out _ | exact Blk.drew B0.out) (by simp)
  have B1x := o.blk (t := 23) (cs := #[.int .i64 b.1, .int .i64 b.2]) (g := w.heap.size + 1) (by first | exact B1.out | exact Blk.drewN B1.out _ | exact Blk.drew B1.out) (by simp)
  have B2x := o.blk (t := 23) (cs := #[.int .i64 c.1, .int .i64 c.2]) (g := w.heap.size + 2) (by first | exact B2.out | exact Blk.drewN B2.out _ | exact Blk.drew B2.out) (by simp)
  have O2x : Only [] w w2 := (by first | exact Only.trans O1.out o (by simp) | exact Only.trans (Only.drewN O1.out _) o (by simp) | exact Only.trans (Only.drew O1.out) o (by simp))
  obtain ⟨B0c0, B0c1, B0l⟩ := B0x.facts2
  obtain ⟨B1c0, B1c1, B1l⟩ := B1x.facts2
  obtain ⟨B2c0, B2c1, B2l⟩ := B2x.facts2
  clear B0 B1 B2 O1 o
  have B0 := Lib.hid B0x; have B1 := Lib.hid B1x; have B2 := Lib.hid B2x; have O2 := Lib.hid O2x
  clear B0x B1x B2x O2x
  go_wp2_with (fail)
  refine (cmpr b a hb ha HY.out _).mono ?_
  rintro e w3 ⟨rfl, o⟩
  have B0x := o.blk (t := 23) (cs := #[.int .i64 a.1, .int .i64 a.2]) (g := w.heap.size) (by first | exact B0.out | exact Blk.drewN B0.out _ | exact Blk.drew B0.out) (by simp)
  have B1x := o.blk (t := 23) (cs := #[.int .i64 b.1, .int .i64 b.2]) (g := w.heap.size + 1) (by first | exact B1.out | exact Blk.drewN B1.out _ | exact Blk.drew B1.out) (by simp)
  have B2x := o.blk (t := 23) (cs := #[.int .i64 c.1, .int .i64 c.2]) (g := w.heap.size + 2) (by first | exact B2.out | exact Blk.drewN B2.out _ | exact Blk.drew B2.out) (by simp)
  have O3x : Only [] w w3 := (by first | exact Only.trans O2.out o (by simp) | exact Only.trans (Only.drewN O2.out _) o (by simp) | exact Only.trans (Only.drew O2.out) o (by simp))
  obtain ⟨B0c0, B0c1, B0l⟩ := B0x.facts2
  obtain ⟨B1c0, B1c1, B1l⟩ := B1x.facts2
  obtain ⟨B2c0, B2c1, B2l⟩ := B2x.facts2
  clear B0 B1 B2 O2 o
  have B0 := Lib.hid B0x; have B1 := Lib.hid B1x; have B2 := Lib.hid B2x; have O3 := Lib.hid O3x
  clear B0x B1x B2x O3x
  go_wp2_with (fail)
  refine (cmpr a a ha ha (cmp_self a) _).mono ?_
  rintro e w4 ⟨rfl, o⟩
  have B0x := o.blk (t := 23) (cs := #[.int .i64 a.1, .int .i64 a.2]) (g := w.heap.size) (by first | exact B0.out | exact Blk.drewN B0.out _ | exact Blk.drew B0.out) (by simp)
  have B1x := o.blk (t := 23) (cs := #[.int .i64 b.1, .int .i64 b.2]) (g := w.heap.size + 1) (by first | exact B1.out | exact Blk.drewN B1.out _ | exact Blk.drew B1.out) (by simp)
  have B2x := o.blk (t := 23) (cs := #[.int .i64 c.1, .int .i64 c.2]) (g := w.heap.size + 2) (by first | exact B2.out | exact Blk.drewN B2.out _ | exact Blk.drew B2.out) (by simp)
  have O4x : Only [] w w4 := (by first | exact Only.trans O3.out o (by simp) | exact Only.trans (Only.drewN O3.out _) o (by simp) | exact Only.trans (Only.drew O3.out) o (by simp))
  obtain ⟨B0c0, B0c1, B0l⟩ := B0x.facts2
  obtain ⟨B1c0, B1c1, B1l⟩ := B1x.facts2
  obtain ⟨B2c0, B2c1, B2l⟩ := B2x.facts2
  clear B0 B1 B2 O3 o
  have B0 := Lib.hid B0x; have B1 := Lib.hid B1x; have B2 := Lib.hid B2x; have O4 := Lib.hid O4x
  clear B0x B1x B2x O4x
  go_wp2_with (fail)
  refine (right_t ha.1 ha.2 RA.out _).mono ?_
  rintro e w5 ⟨rfl, o⟩
  have B0x := o.blk (t := 23) (cs := #[.int .i64 a.1, .int .i64 a.2]) (g := w.heap.size) (by first | exact B0.out | exact Blk.drewN B0.out _ | exact Blk.drew B0.out) (by simp)
  have B1x := o.blk (t := 23) (cs := #[.int .i64 b.1, .int .i64 b.2]) (g := w.heap.size + 1) (by first | exact B1.out | exact Blk.drewN B1.out _ | exact Blk.drew B1.out) (by simp)
  have B2x := o.blk (t := 23) (cs := #[.int .i64 c.1, .int .i64 c.2]) (g := w.heap.size + 2) (by first | exact B2.out | exact Blk.drewN B2.out _ | exact Blk.drew B2.out) (by simp)
  have O5x : Only [] w w5 := (by first | exact Only.trans O4.out o (by simp) | exact Only.trans (Only.drewN O4.out _) o (by simp) | exact Only.trans (Only.drew O4.out) o (by simp))
  obtain ⟨B0c0, B0c1, B0l⟩ := B0x.facts2
  obtain ⟨B1c0, B1c1, B1l⟩ := B1x.facts2
  obtain ⟨B2c0, B2c1, B2l⟩ := B2x.facts2
  clear B0 B1 B2 O4 o
  have B0 := Lib.hid B0x; have B1 := Lib.hid B1x; have B2 := Lib.hid B2x; have O5 := Lib.hid O5x
  clear B0x B1x B2x O5x
  go_wp2_with (fail)
  refine (right_t hb.1 hb.2 RB.out _).mono ?_
  rintro e w6 ⟨rfl, o⟩
  have B0x := o.blk (t := 23) (cs := #[.int .i64 a.1, .int .i64 a.2]) (g := w.heap.size) (by first | exact B0.out | exact Blk.drewN B0.out _ | exact Blk.drew B0.out) (by simp)
  have B1x := o.blk (t := 23) (cs := #[.int .i64 b.1, .int .i64 b.2]) (g := w.heap.size + 1) (by first | exact B1.out | exact Blk.drewN B1.out _ | exact Blk.drew B1.out) (by simp)
  have B2x := o.blk (t := 23) (cs := #[.int .i64 c.1, .int .i64 c.2]) (g := w.heap.size + 2) (by first | exact B2.out | exact Blk.drewN B2.out _ | exact Blk.drew B2.out) (by simp)
  have O6x : Only [] w w6 := (by first | exact Only.trans O5.out o (by simp) | exact Only.trans (Only.drewN O5.out _) o (by simp) | exact Only.trans (Only.drew O5.out) o (by simp))
  obtain ⟨B0c0, B0c1, B0l⟩ := B0x.facts2
  obtain ⟨B1c0, B1c1, B1l⟩ := B1x.facts2
  obtain ⟨B2c0, B2c1, B2l⟩ := B2x.facts2
  clear B0 B1 B2 O5 o
  have B0 := Lib.hid B0x; have B1 := Lib.hid B1x; have B2 := Lib.hid B2x; have O6 := Lib.hid O6x
  clear B0x B1x B2x O6x
  go_wp2_with (fail)
  refine (right_t hc.1 hc.2 RC.out _).mono ?_
  rintro e w7 ⟨rfl, o⟩
  have B0x := o.blk (t := 23) (cs := #[.int .i64 a.1, .int .i64 a.2]) (g := w.heap.size) (by first | exact B0.out | exact Blk.drewN B0.out _ | exact Blk.drew B0.out) (by simp)
  have B1x := o.blk (t := 23) (cs := #[.int .i64 b.1, .int .i64 b.2]) (g := w.heap.size + 1) (by first | exact B1.out | exact Blk.drewN B1.out _ | exact Blk.drew B1.out) (by simp)
  have B2x := o.blk (t := 23) (cs := #[.int .i64 c.1, .int .i64 c.2]) (g := w.heap.size + 2) (by first | exact B2.out | exact Blk.drewN B2.out _ | exact Blk.drew B2.out) (by simp)
  have O7x : Only [] w w7 := (by first | exact Only.trans O6.out o (by simp) | exact Only.trans (Only.drewN O6.out _) o (by simp) | exact Only.trans (Only.drew O6.out) o (by simp))
  obtain ⟨B0c0, B0c1, B0l⟩ := B0x.facts2
  obtain ⟨B1c0, B1c1, B1l⟩ := B1x.facts2
  obtain ⟨B2c0, B2c1, B2l⟩ := B2x.facts2
  clear B0 B1 B2 O6 o
  have B0 := Lib.hid B0x; have B1 := Lib.hid B1x; have B2 := Lib.hid B2x; have O7 := Lib.hid O7x
  clear B0x B1x B2x O7x
  go_wp2_with (fail)
  refine (addr a c ha hc H1.out _).mono ?_
  rintro e w8 ⟨rfl, o⟩
  have B0x := o.blk (t := 23) (cs := #[.int .i64 a.1, .int .i64 a.2]) (g := w.heap.size) (by first | exact B0.out | exact Blk.drewN B0.out _ | exact Blk.drew B0.out) (by simp)
  have B1x := o.blk (t := 23) (cs := #[.int .i64 b.1, .int .i64 b.2]) (g := w.heap.size + 1) (by first | exact B1.out | exact Blk.drewN B1.out _ | exact Blk.drew B1.out) (by simp)
  have B2x := o.blk (t := 23) (cs := #[.int .i64 c.1, .int .i64 c.2]) (g := w.heap.size + 2) (by first | exact B2.out | exact Blk.drewN B2.out _ | exact Blk.drew B2.out) (by simp)
  have O8x : Only [] w w8 := (by first | exact Only.trans O7.out o (by simp) | exact Only.trans (Only.drewN O7.out _) o (by simp) | exact Only.trans (Only.drew O7.out) o (by simp))
  obtain ⟨B0c0, B0c1, B0l⟩ := B0x.facts2
  obtain ⟨B1c0, B1c1, B1l⟩ := B1x.facts2
  obtain ⟨B2c0, B2c1, B2l⟩ := B2x.facts2
  clear B0 B1 B2 O7 o
  have B0 := Lib.hid B0x; have B1 := Lib.hid B1x; have B2 := Lib.hid B2x; have O8 := Lib.hid O8x
  clear B0x B1x B2x O8x
  go_wp2_with (fail)
  refine (addr b c hb hc H2.out _).mono ?_
  rintro e w9 ⟨rfl, o⟩
  have B3n : Blk (w8.alloc (.cells #[.int .i64 s.1, .int .i64 s.2] 23)) (w8.heap.size) 23 #[.int .i64 s.1, .int .i64 s.2] := (by have h := Blk.new w8 23 #[.int .i64 s.1, .int .i64 s.2]; simpa using h)
  have B0x := o.blk (t := 23) (cs := #[.int .i64 a.1, .int .i64 a.2]) (g := w.heap.size) (by first | exact (B0.out.alloc _) | exact Blk.drewN (B0.out.alloc _) _ | exact Blk.drew (B0.out.alloc _)) (by simp)
  have B1x := o.blk (t := 23) (cs := #[.int .i64 b.1, .int .i64 b.2]) (g := w.heap.size + 1) (by first | exact (B1.out.alloc _) | exact Blk.drewN (B1.out.alloc _) _ | exact Blk.drew (B1.out.alloc _)) (by simp)
  have B2x := o.blk (t := 23) (cs := #[.int .i64 c.1, .int .i64 c.2]) (g := w.heap.size + 2) (by first | exact (B2.out.alloc _) | exact Blk.drewN (B2.out.alloc _) _ | exact Blk.drew (B2.out.alloc _)) (by simp)
  have B3x := o.blk (t := 23) (cs := #[.int .i64 s.1, .int .i64 s.2]) (g := w8.heap.size) (by first | exact B3n | exact Blk.drewN B3n _ | exact Blk.drew B3n) (by simp)
  have O9x : Only [] w w9 := (by first | exact Only.trans (O8.out.alloc _) o (by simp) | exact Only.trans (Only.drewN (O8.out.alloc _) _) o (by simp) | exact Only.trans (Only.drew (O8.out.alloc _)) o (by simp))
  obtain ⟨B0c0, B0c1, B0l⟩ := B0x.facts2
  obtain ⟨B1c0, B1c1, B1l⟩ := B1x.facts2
  obtain ⟨B2c0, B2c1, B2l⟩ := B2x.facts2
  obtain ⟨B3c0, B3c1, B3l⟩ := B3x.facts2
  clear B0 B1 B2 B3n O8 o
  have B0 := Lib.hid B0x; have B1 := Lib.hid B1x; have B2 := Lib.hid B2x; have B3 := Lib.hid B3x; have O9 := Lib.hid O9x
  clear B0x B1x B2x B3x O9x
  go_wp2_with (fail)
  go_quiet (fail)
  go_wp2_with (fail)
  go_ret
  exact ⟨rfl, by first | exact (O9.out.alloc _) | exact Only.drewN (O9.out.alloc _) _ | exact Only.drew (O9.out.alloc _)⟩


set_option maxHeartbeats 2000000 in
theorem orders_p_f (a b c : Tm) (ha : a.ok) (hb : b.ok) (hc : c.ok) (hx : cmpT a b = 1) (hy : cmpT b a = (-1)) (ra : a.right = true) (rb : b.right = true) (rc : Tm.right c = true) (hne : a ≠ b) {s t : Tm} {e f : Int} (h1 : addT a c = (s, e)) (h2 : addT b c = (t, f)) (he : e = 0) (hf : f ≠ 0) (w : World) :
    Calls Tryd.prog 7 #[.agg #[.int .i64 a.1, .int .i64 a.2], .agg #[.int .i64 b.1, .int .i64 b.2], .agg #[.int .i64 c.1, .int .i64 c.2]] w fun r w' => r = .returned (.bool true) ∧ Only [] w w' := by
  have HX := Lib.hid hx
  have HY := Lib.hid hy
  clear hx hy
  have RA := Lib.hid ra
  have RB := Lib.hid rb
  have RC := Lib.hid rc
  clear ra rb rc
  have hEQ := eq_timesF hne
  clear hne
  have H1 := Lib.hid h1
  have H2 := Lib.hid h2
  clear h1 h2
  subst he
  have hf' : (f != 0) = true := by simpa using hf
  clear hf
  have O0 := Lib.hid (Only.refl [] w)
  go_enter Tryd.func7, Tryd.ntmps7
  go_wp2_with (fail)
  refine (cmpr a b ha hb HX.out _).mono ?_
  rintro e w1 ⟨rfl, o⟩
  have B0n : Blk (w.alloc (.cells #[.int .i64 a.1, .int .i64 a.2] 23)) (w.heap.size) 23 #[.int .i64 a.1, .int .i64 a.2] := (by have h := Blk.new w 23 #[.int .i64 a.1, .int .i64 a.2]; simpa using h)
  have B1n : Blk ((w.alloc (.cells #[.int .i64 a.1, .int .i64 a.2] 23)).alloc (.cells #[.int .i64 b.1, .int .i64 b.2] 23)) (w.heap.size + 1) 23 #[.int .i64 b.1, .int .i64 b.2] := (by have h := Blk.new (w.alloc (.cells #[.int .i64 a.1, .int .i64 a.2] 23)) 23 #[.int .i64 b.1, .int .i64 b.2]; simpa using h)
  have B2n : Blk (((w.alloc (.cells #[.int .i64 a.1, .int .i64 a.2] 23)).alloc (.cells #[.int .i64 b.1, .int .i64 b.2] 23)).alloc (.cells #[.int .i64 c.1, .int .i64 c.2] 23)) (w.heap.size + 2) 23 #[.int .i64 c.1, .int .i64 c.2] := (by have h := Blk.new ((w.alloc (.cells #[.int .i64 a.1, .int .i64 a.2] 23)).alloc (.cells #[.int .i64 b.1, .int .i64 b.2] 23)) 23 #[.int .i64 c.1, .int .i64 c.2]; simpa using h)
  have B0x := o.blk (t := 23) (cs := #[.int .i64 a.1, .int .i64 a.2]) (g := w.heap.size) (by first | exact ((B0n.alloc _).alloc _) | exact Blk.drewN ((B0n.alloc _).alloc _) _ | exact Blk.drew ((B0n.alloc _).alloc _)) (by simp)
  have B1x := o.blk (t := 23) (cs := #[.int .i64 b.1, .int .i64 b.2]) (g := w.heap.size + 1) (by first | exact (B1n.alloc _) | exact Blk.drewN (B1n.alloc _) _ | exact Blk.drew (B1n.alloc _)) (by simp)
  have B2x := o.blk (t := 23) (cs := #[.int .i64 c.1, .int .i64 c.2]) (g := w.heap.size + 2) (by first | exact B2n | exact Blk.drewN B2n _ | exact Blk.drew B2n) (by simp)
  have O1x : Only [] w w1 := (by first | exact Only.trans (((O0.out.alloc _).alloc _).alloc _) o (by simp) | exact Only.trans (Only.drewN (((O0.out.alloc _).alloc _).alloc _) _) o (by simp) | exact Only.trans (Only.drew (((O0.out.alloc _).alloc _).alloc _)) o (by simp))
  obtain ⟨B0c0, B0c1, B0l⟩ := B0x.facts2
  obtain ⟨B1c0, B1c1, B1l⟩ := B1x.facts2
  obtain ⟨B2c0, B2c1, B2l⟩ := B2x.facts2
  clear B0n B1n B2n O0 o
  have B0 := Lib.hid B0x; have B1 := Lib.hid B1x; have B2 := Lib.hid B2x; have O1 := Lib.hid O1x
  clear B0x B1x B2x O1x
  go_wp2_with (fail)
  refine (awake_any _).mono ?_
  rintro e w2 ⟨rfl, o⟩
  have B0x := o.blk (t := 23) (cs := #[.int .i64 a.1, .int .i64 a.2]) (g := w.heap.size) (by first | exact B0.out | exact Blk.drewN B0.out _ | exact Blk.drew B0.out) (by simp)
  have B1x := o.blk (t := 23) (cs := #[.int .i64 b.1, .int .i64 b.2]) (g := w.heap.size + 1) (by first | exact B1.out | exact Blk.drewN B1.out _ | exact Blk.drew B1.out) (by simp)
  have B2x := o.blk (t := 23) (cs := #[.int .i64 c.1, .int .i64 c.2]) (g := w.heap.size + 2) (by first | exact B2.out | exact Blk.drewN B2.out _ | exact Blk.drew B2.out) (by simp)
  have O2x : Only [] w w2 := (by first | exact Only.trans O1.out o (by simp) | exact Only.trans (Only.drewN O1.out _) o (by simp) | exact Only.trans (Only.drew O1.out) o (by simp))
  obtain ⟨B0c0, B0c1, B0l⟩ := B0x.facts2
  obtain ⟨B1c0, B1c1, B1l⟩ := B1x.facts2
  obtain ⟨B2c0, B2c1, B2l⟩ := B2x.facts2
  clear B0 B1 B2 O1 o
  have B0 := Lib.hid B0x; have B1 := Lib.hid B1x; have B2 := Lib.hid B2x; have O2 := Lib.hid O2x
  clear B0x B1x B2x O2x
  go_wp2_with (fail)
  refine (cmpr b a hb ha HY.out _).mono ?_
  rintro e w3 ⟨rfl, o⟩
  have B0x := o.blk (t := 23) (cs := #[.int .i64 a.1, .int .i64 a.2]) (g := w.heap.size) (by first | exact B0.out | exact Blk.drewN B0.out _ | exact Blk.drew B0.out) (by simp)
  have B1x := o.blk (t := 23) (cs := #[.int .i64 b.1, .int .i64 b.2]) (g := w.heap.size + 1) (by first | exact B1.out | exact Blk.drewN B1.out _ | exact Blk.drew B1.out) (by simp)
  have B2x := o.blk (t := 23) (cs := #[.int .i64 c.1, .int .i64 c.2]) (g := w.heap.size + 2) (by first | exact B2.out | exact Blk.drewN B2.out _ | exact Blk.drew B2.out) (by simp)
  have O3x : Only [] w w3 := (by first | exact Only.trans O2.out o (by simp) | exact Only.trans (Only.drewN O2.out _) o (by simp) | exact Only.trans (Only.drew O2.out) o (by simp))
  obtain ⟨B0c0, B0c1, B0l⟩ := B0x.facts2
  obtain ⟨B1c0, B1c1, B1l⟩ := B1x.facts2
  obtain ⟨B2c0, B2c1, B2l⟩ := B2x.facts2
  clear B0 B1 B2 O2 o
  have B0 := Lib.hid B0x; have B1 := Lib.hid B1x; have B2 := Lib.hid B2x; have O3 := Lib.hid O3x
  clear B0x B1x B2x O3x
  go_wp2_with (fail)
  refine (cmpr a a ha ha (cmp_self a) _).mono ?_
  rintro e w4 ⟨rfl, o⟩
  have B0x := o.blk (t := 23) (cs := #[.int .i64 a.1, .int .i64 a.2]) (g := w.heap.size) (by first | exact B0.out | exact Blk.drewN B0.out _ | exact Blk.drew B0.out) (by simp)
  have B1x := o.blk (t := 23) (cs := #[.int .i64 b.1, .int .i64 b.2]) (g := w.heap.size + 1) (by first | exact B1.out | exact Blk.drewN B1.out _ | exact Blk.drew B1.out) (by simp)
  have B2x := o.blk (t := 23) (cs := #[.int .i64 c.1, .int .i64 c.2]) (g := w.heap.size + 2) (by first | exact B2.out | exact Blk.drewN B2.out _ | exact Blk.drew B2.out) (by simp)
  have O4x : Only [] w w4 := (by first | exact Only.trans O3.out o (by simp) | exact Only.trans (Only.drewN O3.out _) o (by simp) | exact Only.trans (Only.drew O3.out) o (by simp))
  obtain ⟨B0c0, B0c1, B0l⟩ := B0x.facts2
  obtain ⟨B1c0, B1c1, B1l⟩ := B1x.facts2
  obtain ⟨B2c0, B2c1, B2l⟩ := B2x.facts2
  clear B0 B1 B2 O3 o
  have B0 := Lib.hid B0x; have B1 := Lib.hid B1x; have B2 := Lib.hid B2x; have O4 := Lib.hid O4x
  clear B0x B1x B2x O4x
  go_wp2_with (fail)
  refine (right_t ha.1 ha.2 RA.out _).mono ?_
  rintro e w5 ⟨rfl, o⟩
  have B0x := o.blk (t := 23) (cs := #[.int .i64 a.1, .int .i64 a.2]) (g := w.heap.size) (by first | exact B0.out | exact Blk.drewN B0.out _ | exact Blk.drew B0.out) (by simp)
  have B1x := o.blk (t := 23) (cs := #[.int .i64 b.1, .int .i64 b.2]) (g := w.heap.size + 1) (by first | exact B1.out | exact Blk.drewN B1.out _ | exact Blk.drew B1.out) (by simp)
  have B2x := o.blk (t := 23) (cs := #[.int .i64 c.1, .int .i64 c.2]) (g := w.heap.size + 2) (by first | exact B2.out | exact Blk.drewN B2.out _ | exact Blk.drew B2.out) (by simp)
  have O5x : Only [] w w5 := (by first | exact Only.trans O4.out o (by simp) | exact Only.trans (Only.drewN O4.out _) o (by simp) | exact Only.trans (Only.drew O4.out) o (by simp))
  obtain ⟨B0c0, B0c1, B0l⟩ := B0x.facts2
  obtain ⟨B1c0, B1c1, B1l⟩ := B1x.facts2
  obtain ⟨B2c0, B2c1, B2l⟩ := B2x.facts2
  clear B0 B1 B2 O4 o
  have B0 := Lib.hid B0x; have B1 := Lib.hid B1x; have B2 := Lib.hid B2x; have O5 := Lib.hid O5x
  clear B0x B1x B2x O5x
  go_wp2_with (fail)
  refine (right_t hb.1 hb.2 RB.out _).mono ?_
  rintro e w6 ⟨rfl, o⟩
  have B0x := o.blk (t := 23) (cs := #[.int .i64 a.1, .int .i64 a.2]) (g := w.heap.size) (by first | exact B0.out | exact Blk.drewN B0.out _ | exact Blk.drew B0.out) (by simp)
  have B1x := o.blk (t := 23) (cs := #[.int .i64 b.1, .int .i64 b.2]) (g := w.heap.size + 1) (by first | exact B1.out | exact Blk.drewN B1.out _ | exact Blk.drew B1.out) (by simp)
  have B2x := o.blk (t := 23) (cs := #[.int .i64 c.1, .int .i64 c.2]) (g := w.heap.size + 2) (by first | exact B2.out | exact Blk.drewN B2.out _ | exact Blk.drew B2.out) (by simp)
  have O6x : Only [] w w6 := (by first | exact Only.trans O5.out o (by simp) | exact Only.trans (Only.drewN O5.out _) o (by simp) | exact Only.trans (Only.drew O5.out) o (by simp))
  obtain ⟨B0c0, B0c1, B0l⟩ := B0x.facts2
  obtain ⟨B1c0, B1c1, B1l⟩ := B1x.facts2
  obtain ⟨B2c0, B2c1, B2l⟩ := B2x.facts2
  clear B0 B1 B2 O5 o
  have B0 := Lib.hid B0x; have B1 := Lib.hid B1x; have B2 := Lib.hid B2x; have O6 := Lib.hid O6x
  clear B0x B1x B2x O6x
  go_wp2_with (fail)
  refine (right_t hc.1 hc.2 RC.out _).mono ?_
  rintro e w7 ⟨rfl, o⟩
  have B0x := o.blk (t := 23) (cs := #[.int .i64 a.1, .int .i64 a.2]) (g := w.heap.size) (by first | exact B0.out | exact Blk.drewN B0.out _ | exact Blk.drew B0.out) (by simp)
  have B1x := o.blk (t := 23) (cs := #[.int .i64 b.1, .int .i64 b.2]) (g := w.heap.size + 1) (by first | exact B1.out | exact Blk.drewN B1.out _ | exact Blk.drew B1.out) (by simp)
  have B2x := o.blk (t := 23) (cs := #[.int .i64 c.1, .int .i64 c.2]) (g := w.heap.size + 2) (by first | exact B2.out | exact Blk.drewN B2.out _ | exact Blk.drew B2.out) (by simp)
  have O7x : Only [] w w7 := (by first | exact Only.trans O6.out o (by simp) | exact Only.trans (Only.drewN O6.out _) o (by simp) | exact Only.trans (Only.drew O6.out) o (by simp))
  obtain ⟨B0c0, B0c1, B0l⟩ := B0x.facts2
  obtain ⟨B1c0, B1c1, B1l⟩ := B1x.facts2
  obtain ⟨B2c0, B2c1, B2l⟩ := B2x.facts2
  clear B0 B1 B2 O6 o
  have B0 := Lib.hid B0x; have B1 := Lib.hid B1x; have B2 := Lib.hid B2x; have O7 := Lib.hid O7x
  clear B0x B1x B2x O7x
  go_wp2_with (fail)
  refine (addr a c ha hc H1.out _).mono ?_
  rintro e w8 ⟨rfl, o⟩
  have B0x := o.blk (t := 23) (cs := #[.int .i64 a.1, .int .i64 a.2]) (g := w.heap.size) (by first | exact B0.out | exact Blk.drewN B0.out _ | exact Blk.drew B0.out) (by simp)
  have B1x := o.blk (t := 23) (cs := #[.int .i64 b.1, .int .i64 b.2]) (g := w.heap.size + 1) (by first | exact B1.out | exact Blk.drewN B1.out _ | exact Blk.drew B1.out) (by simp)
  have B2x := o.blk (t := 23) (cs := #[.int .i64 c.1, .int .i64 c.2]) (g := w.heap.size + 2) (by first | exact B2.out | exact Blk.drewN B2.out _ | exact Blk.drew B2.out) (by simp)
  have O8x : Only [] w w8 := (by first | exact Only.trans O7.out o (by simp) | exact Only.trans (Only.drewN O7.out _) o (by simp) | exact Only.trans (Only.drew O7.out) o (by simp))
  obtain ⟨B0c0, B0c1, B0l⟩ := B0x.facts2
  obtain ⟨B1c0, B1c1, B1l⟩ := B1x.facts2
  obtain ⟨B2c0, B2c1, B2l⟩ := B2x.facts2
  clear B0 B1 B2 O7 o
  have B0 := Lib.hid B0x; have B1 := Lib.hid B1x; have B2 := Lib.hid B2x; have O8 := Lib.hid O8x
  clear B0x B1x B2x O8x
  go_wp2_with (fail)
  refine (addr b c hb hc H2.out _).mono ?_
  rintro e w9 ⟨rfl, o⟩
  have B3n : Blk (w8.alloc (.cells #[.int .i64 s.1, .int .i64 s.2] 23)) (w8.heap.size) 23 #[.int .i64 s.1, .int .i64 s.2] := (by have h := Blk.new w8 23 #[.int .i64 s.1, .int .i64 s.2]; simpa using h)
  have B0x := o.blk (t := 23) (cs := #[.int .i64 a.1, .int .i64 a.2]) (g := w.heap.size) (by first | exact (B0.out.alloc _) | exact Blk.drewN (B0.out.alloc _) _ | exact Blk.drew (B0.out.alloc _)) (by simp)
  have B1x := o.blk (t := 23) (cs := #[.int .i64 b.1, .int .i64 b.2]) (g := w.heap.size + 1) (by first | exact (B1.out.alloc _) | exact Blk.drewN (B1.out.alloc _) _ | exact Blk.drew (B1.out.alloc _)) (by simp)
  have B2x := o.blk (t := 23) (cs := #[.int .i64 c.1, .int .i64 c.2]) (g := w.heap.size + 2) (by first | exact (B2.out.alloc _) | exact Blk.drewN (B2.out.alloc _) _ | exact Blk.drew (B2.out.alloc _)) (by simp)
  have B3x := o.blk (t := 23) (cs := #[.int .i64 s.1, .int .i64 s.2]) (g := w8.heap.size) (by first | exact B3n | exact Blk.drewN B3n _ | exact Blk.drew B3n) (by simp)
  have O9x : Only [] w w9 := (by first | exact Only.trans (O8.out.alloc _) o (by simp) | exact Only.trans (Only.drewN (O8.out.alloc _) _) o (by simp) | exact Only.trans (Only.drew (O8.out.alloc _)) o (by simp))
  obtain ⟨B0c0, B0c1, B0l⟩ := B0x.facts2
  obtain ⟨B1c0, B1c1, B1l⟩ := B1x.facts2
  obtain ⟨B2c0, B2c1, B2l⟩ := B2x.facts2
  obtain ⟨B3c0, B3c1, B3l⟩ := B3x.facts2
  clear B0 B1 B2 B3n O8 o
  have B0 := Lib.hid B0x; have B1 := Lib.hid B1x; have B2 := Lib.hid B2x; have B3 := Lib.hid B3x; have O9 := Lib.hid O9x
  clear B0x B1x B2x B3x O9x
  go_wp2_with (fail)
  go_quiet (fail)
  go_wp2_with (fail)
  go_ret
  exact ⟨rfl, by first | exact (O9.out.alloc _) | exact Only.drewN (O9.out.alloc _) _ | exact Only.drew (O9.out.alloc _)⟩


set_option maxHeartbeats 2000000 in
theorem orders_p_n (a b : Tm) (ha : a.ok) (hb : b.ok) (hx : cmpT a b = 1) (hy : cmpT b a = (-1)) (ra : a.right = true) (rb : b.right = true) (rc : Tm.right (1, 0) = true) (hne : a ≠ b) {s t : Tm} {e f : Int} (h1 : addT a (1, 0) = (s, e)) (h2 : addT b (1, 0) = (t, f)) (he : e = 0) (hf : f = 0) (w : World) :
    Calls Tryd.prog 7 #[.agg #[.int .i64 a.1, .int .i64 a.2], .agg #[.int .i64 b.1, .int .i64 b.2], .agg #[.int .i64 1, .int .i64 0]] w fun r w' => r = .returned (.bool true) ∧ Only [] w w' := by
  have HX := Lib.hid hx
  have HY := Lib.hid hy
  clear hx hy
  have RA := Lib.hid ra
  have RB := Lib.hid rb
  have RC := Lib.hid rc
  clear ra rb rc
  have hEQ := eq_timesF hne
  clear hne
  have H1 := Lib.hid h1
  have H2 := Lib.hid h2
  clear h1 h2
  subst he hf
  have hEN := eq_never
  have O0 := Lib.hid (Only.refl [] w)
  go_enter Tryd.func7, Tryd.ntmps7
  go_wp2_with (fail)
  refine (cmpr a b ha hb HX.out _).mono ?_
  rintro e w1 ⟨rfl, o⟩
  have B0n : Blk (w.alloc (.cells #[.int .i64 a.1, .int .i64 a.2] 23)) (w.heap.size) 23 #[.int .i64 a.1, .int .i64 a.2] := (by have h := Blk.new w 23 #[.int .i64 a.1, .int .i64 a.2]; simpa using h)
  have B1n : Blk ((w.alloc (.cells #[.int .i64 a.1, .int .i64 a.2] 23)).alloc (.cells #[.int .i64 b.1, .int .i64 b.2] 23)) (w.heap.size + 1) 23 #[.int .i64 b.1, .int .i64 b.2] := (by have h := Blk.new (w.alloc (.cells #[.int .i64 a.1, .int .i64 a.2] 23)) 23 #[.int .i64 b.1, .int .i64 b.2]; simpa using h)
  have B2n : Blk (((w.alloc (.cells #[.int .i64 a.1, .int .i64 a.2] 23)).alloc (.cells #[.int .i64 b.1, .int .i64 b.2] 23)).alloc (.cells #[.int .i64 1, .int .i64 0] 23)) (w.heap.size + 2) 23 #[.int .i64 1, .int .i64 0] := (by have h := Blk.new ((w.alloc (.cells #[.int .i64 a.1, .int .i64 a.2] 23)).alloc (.cells #[.int .i64 b.1, .int .i64 b.2] 23)) 23 #[.int .i64 1, .int .i64 0]; simpa using h)
  have B0x := o.blk (t := 23) (cs := #[.int .i64 a.1, .int .i64 a.2]) (g := w.heap.size) (by first | exact ((B0n.alloc _).alloc _) | exact Blk.drewN ((B0n.alloc _).alloc _) _ | exact Blk.drew ((B0n.alloc _).alloc _)) (by simp)
  have B1x := o.blk (t := 23) (cs := #[.int .i64 b.1, .int .i64 b.2]) (g := w.heap.size + 1) (by first | exact (B1n.alloc _) | exact Blk.drewN (B1n.alloc _) _ | exact Blk.drew (B1n.alloc _)) (by simp)
  have B2x := o.blk (t := 23) (cs := #[.int .i64 1, .int .i64 0]) (g := w.heap.size + 2) (by first | exact B2n | exact Blk.drewN B2n _ | exact Blk.drew B2n) (by simp)
  have O1x : Only [] w w1 := (by first | exact Only.trans (((O0.out.alloc _).alloc _).alloc _) o (by simp) | exact Only.trans (Only.drewN (((O0.out.alloc _).alloc _).alloc _) _) o (by simp) | exact Only.trans (Only.drew (((O0.out.alloc _).alloc _).alloc _)) o (by simp))
  obtain ⟨B0c0, B0c1, B0l⟩ := B0x.facts2
  obtain ⟨B1c0, B1c1, B1l⟩ := B1x.facts2
  obtain ⟨B2c0, B2c1, B2l⟩ := B2x.facts2
  clear B0n B1n B2n O0 o
  have B0 := Lib.hid B0x; have B1 := Lib.hid B1x; have B2 := Lib.hid B2x; have O1 := Lib.hid O1x
  clear B0x B1x B2x O1x
  go_wp2_with (fail)
  refine (awake_any _).mono ?_
  rintro e w2 ⟨rfl, o⟩
  have B0x := o.blk (t := 23) (cs := #[.int .i64 a.1, .int .i64 a.2]) (g := w.heap.size) (by first | exact B0.out | exact Blk.drewN B0.out _ | exact Blk.drew B0.out) (by simp)
  have B1x := o.blk (t := 23) (cs := #[.int .i64 b.1, .int .i64 b.2]) (g := w.heap.size + 1) (by first | exact B1.out | exact Blk.drewN B1.out _ | exact Blk.drew B1.out) (by simp)
  have B2x := o.blk (t := 23) (cs := #[.int .i64 1, .int .i64 0]) (g := w.heap.size + 2) (by first | exact B2.out | exact Blk.drewN B2.out _ | exact Blk.drew B2.out) (by simp)
  have O2x : Only [] w w2 := (by first | exact Only.trans O1.out o (by simp) | exact Only.trans (Only.drewN O1.out _) o (by simp) | exact Only.trans (Only.drew O1.out) o (by simp))
  obtain ⟨B0c0, B0c1, B0l⟩ := B0x.facts2
  obtain ⟨B1c0, B1c1, B1l⟩ := B1x.facts2
  obtain ⟨B2c0, B2c1, B2l⟩ := B2x.facts2
  clear B0 B1 B2 O1 o
  have B0 := Lib.hid B0x; have B1 := Lib.hid B1x; have B2 := Lib.hid B2x; have O2 := Lib.hid O2x
  clear B0x B1x B2x O2x
  go_wp2_with (fail)
  refine (cmpr b a hb ha HY.out _).mono ?_
  rintro e w3 ⟨rfl, o⟩
  have B0x := o.blk (t := 23) (cs := #[.int .i64 a.1, .int .i64 a.2]) (g := w.heap.size) (by first | exact B0.out | exact Blk.drewN B0.out _ | exact Blk.drew B0.out) (by simp)
  have B1x := o.blk (t := 23) (cs := #[.int .i64 b.1, .int .i64 b.2]) (g := w.heap.size + 1) (by first | exact B1.out | exact Blk.drewN B1.out _ | exact Blk.drew B1.out) (by simp)
  have B2x := o.blk (t := 23) (cs := #[.int .i64 1, .int .i64 0]) (g := w.heap.size + 2) (by first | exact B2.out | exact Blk.drewN B2.out _ | exact Blk.drew B2.out) (by simp)
  have O3x : Only [] w w3 := (by first | exact Only.trans O2.out o (by simp) | exact Only.trans (Only.drewN O2.out _) o (by simp) | exact Only.trans (Only.drew O2.out) o (by simp))
  obtain ⟨B0c0, B0c1, B0l⟩ := B0x.facts2
  obtain ⟨B1c0, B1c1, B1l⟩ := B1x.facts2
  obtain ⟨B2c0, B2c1, B2l⟩ := B2x.facts2
  clear B0 B1 B2 O2 o
  have B0 := Lib.hid B0x; have B1 := Lib.hid B1x; have B2 := Lib.hid B2x; have O3 := Lib.hid O3x
  clear B0x B1x B2x O3x
  go_wp2_with (fail)
  refine (cmpr a a ha ha (cmp_self a) _).mono ?_
  rintro e w4 ⟨rfl, o⟩
  have B0x := o.blk (t := 23) (cs := #[.int .i64 a.1, .int .i64 a.2]) (g := w.heap.size) (by first | exact B0.out | exact Blk.drewN B0.out _ | exact Blk.drew B0.out) (by simp)
  have B1x := o.blk (t := 23) (cs := #[.int .i64 b.1, .int .i64 b.2]) (g := w.heap.size + 1) (by first | exact B1.out | exact Blk.drewN B1.out _ | exact Blk.drew B1.out) (by simp)
  have B2x := o.blk (t := 23) (cs := #[.int .i64 1, .int .i64 0]) (g := w.heap.size + 2) (by first | exact B2.out | exact Blk.drewN B2.out _ | exact Blk.drew B2.out) (by simp)
  have O4x : Only [] w w4 := (by first | exact Only.trans O3.out o (by simp) | exact Only.trans (Only.drewN O3.out _) o (by simp) | exact Only.trans (Only.drew O3.out) o (by simp))
  obtain ⟨B0c0, B0c1, B0l⟩ := B0x.facts2
  obtain ⟨B1c0, B1c1, B1l⟩ := B1x.facts2
  obtain ⟨B2c0, B2c1, B2l⟩ := B2x.facts2
  clear B0 B1 B2 O3 o
  have B0 := Lib.hid B0x; have B1 := Lib.hid B1x; have B2 := Lib.hid B2x; have O4 := Lib.hid O4x
  clear B0x B1x B2x O4x
  go_wp2_with (fail)
  refine (right_t ha.1 ha.2 RA.out _).mono ?_
  rintro e w5 ⟨rfl, o⟩
  have B0x := o.blk (t := 23) (cs := #[.int .i64 a.1, .int .i64 a.2]) (g := w.heap.size) (by first | exact B0.out | exact Blk.drewN B0.out _ | exact Blk.drew B0.out) (by simp)
  have B1x := o.blk (t := 23) (cs := #[.int .i64 b.1, .int .i64 b.2]) (g := w.heap.size + 1) (by first | exact B1.out | exact Blk.drewN B1.out _ | exact Blk.drew B1.out) (by simp)
  have B2x := o.blk (t := 23) (cs := #[.int .i64 1, .int .i64 0]) (g := w.heap.size + 2) (by first | exact B2.out | exact Blk.drewN B2.out _ | exact Blk.drew B2.out) (by simp)
  have O5x : Only [] w w5 := (by first | exact Only.trans O4.out o (by simp) | exact Only.trans (Only.drewN O4.out _) o (by simp) | exact Only.trans (Only.drew O4.out) o (by simp))
  obtain ⟨B0c0, B0c1, B0l⟩ := B0x.facts2
  obtain ⟨B1c0, B1c1, B1l⟩ := B1x.facts2
  obtain ⟨B2c0, B2c1, B2l⟩ := B2x.facts2
  clear B0 B1 B2 O4 o
  have B0 := Lib.hid B0x; have B1 := Lib.hid B1x; have B2 := Lib.hid B2x; have O5 := Lib.hid O5x
  clear B0x B1x B2x O5x
  go_wp2_with (fail)
  refine (right_t hb.1 hb.2 RB.out _).mono ?_
  rintro e w6 ⟨rfl, o⟩
  have B0x := o.blk (t := 23) (cs := #[.int .i64 a.1, .int .i64 a.2]) (g := w.heap.size) (by first | exact B0.out | exact Blk.drewN B0.out _ | exact Blk.drew B0.out) (by simp)
  have B1x := o.blk (t := 23) (cs := #[.int .i64 b.1, .int .i64 b.2]) (g := w.heap.size + 1) (by first | exact B1.out | exact Blk.drewN B1.out _ | exact Blk.drew B1.out) (by simp)
  have B2x := o.blk (t := 23) (cs := #[.int .i64 1, .int .i64 0]) (g := w.heap.size + 2) (by first | exact B2.out | exact Blk.drewN B2.out _ | exact Blk.drew B2.out) (by simp)
  have O6x : Only [] w w6 := (by first | exact Only.trans O5.out o (by simp) | exact Only.trans (Only.drewN O5.out _) o (by simp) | exact Only.trans (Only.drew O5.out) o (by simp))
  obtain ⟨B0c0, B0c1, B0l⟩ := B0x.facts2
  obtain ⟨B1c0, B1c1, B1l⟩ := B1x.facts2
  obtain ⟨B2c0, B2c1, B2l⟩ := B2x.facts2
  clear B0 B1 B2 O5 o
  have B0 := Lib.hid B0x; have B1 := Lib.hid B1x; have B2 := Lib.hid B2x; have O6 := Lib.hid O6x
  clear B0x B1x B2x O6x
  go_wp2_with (fail)
  refine (right_t ok_never.1 ok_never.2 RC.out _).mono ?_
  rintro e w7 ⟨rfl, o⟩
  have B0x := o.blk (t := 23) (cs := #[.int .i64 a.1, .int .i64 a.2]) (g := w.heap.size) (by first | exact B0.out | exact Blk.drewN B0.out _ | exact Blk.drew B0.out) (by simp)
  have B1x := o.blk (t := 23) (cs := #[.int .i64 b.1, .int .i64 b.2]) (g := w.heap.size + 1) (by first | exact B1.out | exact Blk.drewN B1.out _ | exact Blk.drew B1.out) (by simp)
  have B2x := o.blk (t := 23) (cs := #[.int .i64 1, .int .i64 0]) (g := w.heap.size + 2) (by first | exact B2.out | exact Blk.drewN B2.out _ | exact Blk.drew B2.out) (by simp)
  have O7x : Only [] w w7 := (by first | exact Only.trans O6.out o (by simp) | exact Only.trans (Only.drewN O6.out _) o (by simp) | exact Only.trans (Only.drew O6.out) o (by simp))
  obtain ⟨B0c0, B0c1, B0l⟩ := B0x.facts2
  obtain ⟨B1c0, B1c1, B1l⟩ := B1x.facts2
  obtain ⟨B2c0, B2c1, B2l⟩ := B2x.facts2
  clear B0 B1 B2 O6 o
  have B0 := Lib.hid B0x; have B1 := Lib.hid B1x; have B2 := Lib.hid B2x; have O7 := Lib.hid O7x
  clear B0x B1x B2x O7x
  go_wp2_with (fail)
  refine (addr a (1, 0) ha ok_never H1.out _).mono ?_
  rintro e w8 ⟨rfl, o⟩
  have B0x := o.blk (t := 23) (cs := #[.int .i64 a.1, .int .i64 a.2]) (g := w.heap.size) (by first | exact B0.out | exact Blk.drewN B0.out _ | exact Blk.drew B0.out) (by simp)
  have B1x := o.blk (t := 23) (cs := #[.int .i64 b.1, .int .i64 b.2]) (g := w.heap.size + 1) (by first | exact B1.out | exact Blk.drewN B1.out _ | exact Blk.drew B1.out) (by simp)
  have B2x := o.blk (t := 23) (cs := #[.int .i64 1, .int .i64 0]) (g := w.heap.size + 2) (by first | exact B2.out | exact Blk.drewN B2.out _ | exact Blk.drew B2.out) (by simp)
  have O8x : Only [] w w8 := (by first | exact Only.trans O7.out o (by simp) | exact Only.trans (Only.drewN O7.out _) o (by simp) | exact Only.trans (Only.drew O7.out) o (by simp))
  obtain ⟨B0c0, B0c1, B0l⟩ := B0x.facts2
  obtain ⟨B1c0, B1c1, B1l⟩ := B1x.facts2
  obtain ⟨B2c0, B2c1, B2l⟩ := B2x.facts2
  clear B0 B1 B2 O7 o
  have B0 := Lib.hid B0x; have B1 := Lib.hid B1x; have B2 := Lib.hid B2x; have O8 := Lib.hid O8x
  clear B0x B1x B2x O8x
  go_wp2_with (fail)
  refine (addr b (1, 0) hb ok_never H2.out _).mono ?_
  rintro e w9 ⟨rfl, o⟩
  have B3n : Blk (w8.alloc (.cells #[.int .i64 s.1, .int .i64 s.2] 23)) (w8.heap.size) 23 #[.int .i64 s.1, .int .i64 s.2] := (by have h := Blk.new w8 23 #[.int .i64 s.1, .int .i64 s.2]; simpa using h)
  have B0x := o.blk (t := 23) (cs := #[.int .i64 a.1, .int .i64 a.2]) (g := w.heap.size) (by first | exact (B0.out.alloc _) | exact Blk.drewN (B0.out.alloc _) _ | exact Blk.drew (B0.out.alloc _)) (by simp)
  have B1x := o.blk (t := 23) (cs := #[.int .i64 b.1, .int .i64 b.2]) (g := w.heap.size + 1) (by first | exact (B1.out.alloc _) | exact Blk.drewN (B1.out.alloc _) _ | exact Blk.drew (B1.out.alloc _)) (by simp)
  have B2x := o.blk (t := 23) (cs := #[.int .i64 1, .int .i64 0]) (g := w.heap.size + 2) (by first | exact (B2.out.alloc _) | exact Blk.drewN (B2.out.alloc _) _ | exact Blk.drew (B2.out.alloc _)) (by simp)
  have B3x := o.blk (t := 23) (cs := #[.int .i64 s.1, .int .i64 s.2]) (g := w8.heap.size) (by first | exact B3n | exact Blk.drewN B3n _ | exact Blk.drew B3n) (by simp)
  have O9x : Only [] w w9 := (by first | exact Only.trans (O8.out.alloc _) o (by simp) | exact Only.trans (Only.drewN (O8.out.alloc _) _) o (by simp) | exact Only.trans (Only.drew (O8.out.alloc _)) o (by simp))
  obtain ⟨B0c0, B0c1, B0l⟩ := B0x.facts2
  obtain ⟨B1c0, B1c1, B1l⟩ := B1x.facts2
  obtain ⟨B2c0, B2c1, B2l⟩ := B2x.facts2
  obtain ⟨B3c0, B3c1, B3l⟩ := B3x.facts2
  clear B0 B1 B2 B3n O8 o
  have B0 := Lib.hid B0x; have B1 := Lib.hid B1x; have B2 := Lib.hid B2x; have B3 := Lib.hid B3x; have O9 := Lib.hid O9x
  clear B0x B1x B2x B3x O9x
  go_wp2_with (fail)
  refine wp_region_held_drew (S := (fun w' => w'.cell? ⟨w.heap.size + 2, 0, none⟩ = some (.int .i64 1) ∧ w'.cell? ⟨w.heap.size + 2, 1, none⟩ = some (.int .i64 0))) (by kernel_rfl) ?_ (fun hHeld => ?_)
  · first | (go_keep; done) | (refine ⟨?_, ?_⟩ <;> (go_simp; done))
  refine wpAnyH_take (i := 0) (v := ?_) rfl (by kernel_rfl) (by kernel_rfl) (by kernel_rfl) (fun _ _ _ h => h) (Or.inl ⟨by kernel_rfl, ?_⟩) hHeld ?_
  rotate_left
  · (intro w hSw; (try dsimp only at hSw); go_simp; try with_reducible rfl)
  change wpAnyH _ _ _ _ _ _ _ (Act.put _ (some 78) _) _
  simp only [Act.put, List.setIfInBounds_toArray, List.set_cons_zero, List.set_cons_succ]
  refine wpAnyH_take (i := 1) (v := ?_) rfl (by kernel_rfl) (by kernel_rfl) (by kernel_rfl) (fun _ _ _ h => h) (Or.inl ⟨by kernel_rfl, ?_⟩) hHeld ?_
  rotate_left
  · (intro w hSw; (try dsimp only at hSw); go_simp; try with_reducible rfl)
  change wpAnyH _ _ _ _ _ _ _ (Act.put _ (some 79) _) _
  simp only [Act.put, List.setIfInBounds_toArray, List.set_cons_zero, List.set_cons_succ]
  refine wpAnyH_take (i := 2) (v := ?_) rfl (by kernel_rfl) (by kernel_rfl) (by kernel_rfl) (fun _ _ _ h => h) (Or.inl ⟨by kernel_rfl, ?_⟩) hHeld ?_
  rotate_left
  · (intro w hSw; (try dsimp only at hSw); go_simp; try with_reducible rfl)
  change wpAnyH _ _ _ _ _ _ _ (Act.put _ (some 80) _) _
  simp only [Act.put, List.setIfInBounds_toArray, List.set_cons_zero, List.set_cons_succ]
  refine wpAnyH_take (i := 3) (v := ?_) rfl (by kernel_rfl) (by kernel_rfl) (by kernel_rfl) (fun _ _ _ h => h) (Or.inl ⟨by kernel_rfl, ?_⟩) hHeld ?_
  rotate_left
  · (intro w hSw; (try dsimp only at hSw); go_simp; try with_reducible rfl)
  change wpAnyH _ _ _ _ _ _ _ (Act.put _ (some 81) _) _
  simp only [Act.put, List.setIfInBounds_toArray, List.set_cons_zero, List.set_cons_succ]
  refine wpAnyH_take (i := 4) (v := ?_) rfl (by kernel_rfl) (by kernel_rfl) (by kernel_rfl) (fun _ _ _ h => h) (Or.inl ⟨by kernel_rfl, ?_⟩) hHeld ?_
  rotate_left
  · (intro w hSw; (try dsimp only at hSw); go_simp; try with_reducible rfl)
  change wpAnyH _ _ _ _ _ _ _ (Act.put _ (some 82) _) _
  simp only [Act.put, List.setIfInBounds_toArray, List.set_cons_zero, List.set_cons_succ]
  refine wpAnyH_take (i := 5) (v := ?_) rfl (by kernel_rfl) (by kernel_rfl) (by kernel_rfl) (fun _ _ _ h => h) (Or.inl ⟨by kernel_rfl, ?_⟩) hHeld ?_
  rotate_left
  · (intro w hSw; (try dsimp only at hSw); go_simp; try with_reducible rfl)
  change wpAnyH _ _ _ _ _ _ _ (Act.put _ (some 83) _) _
  simp only [Act.put, List.setIfInBounds_toArray, List.set_cons_zero, List.set_cons_succ]
  refine wpAnyH_take (i := 6) (v := ?_) rfl (by kernel_rfl) (by kernel_rfl) (by kernel_rfl) (fun _ _ _ h => h) (Or.inl ⟨by kernel_rfl, ?_⟩) hHeld ?_
  rotate_left
  · (intro w hSw; (try dsimp only at hSw); go_simp; try with_reducible rfl)
  change wpAnyH _ _ _ _ _ _ _ (Act.put _ (some 84) _) _
  simp only [Act.put, List.setIfInBounds_toArray, List.set_cons_zero, List.set_cons_succ]
  refine wpAnyH_take (i := 7) (v := ?_) rfl (by kernel_rfl) (by kernel_rfl) (by kernel_rfl) (fun _ _ _ h => h) (Or.inl ⟨by kernel_rfl, ?_⟩) hHeld ?_
  rotate_left
  · (intro w hSw; (try dsimp only at hSw); go_simp; try with_reducible rfl)
  change wpAnyH _ _ _ _ _ _ _ (Act.put _ (some 85) _) _
  simp only [Act.put, List.setIfInBounds_toArray, List.set_cons_zero, List.set_cons_succ]
  refine wpAnyH_ready (rs := [8]) (by kernel_rfl) (by simp) ?_
  refine AllReadyH.cons rfl (fun K hK => ?_) AllReadyH.nil
  go_simp
  refine (never_any _).mono ?_
  rintro e w10 ⟨rfl, o⟩
  have B4n : Blk (w9.alloc (.cells #[.int .i64 t.1, .int .i64 t.2] 23)) (w9.heap.size) 23 #[.int .i64 t.1, .int .i64 t.2] := (by have h := Blk.new w9 23 #[.int .i64 t.1, .int .i64 t.2]; simpa using h)
  have B0x := o.blk (t := 23) (cs := #[.int .i64 a.1, .int .i64 a.2]) (g := w.heap.size) (by first | exact (B0.out.alloc _) | exact Blk.drewN (B0.out.alloc _) _ | exact Blk.drew (B0.out.alloc _)) (by simp)
  have B1x := o.blk (t := 23) (cs := #[.int .i64 b.1, .int .i64 b.2]) (g := w.heap.size + 1) (by first | exact (B1.out.alloc _) | exact Blk.drewN (B1.out.alloc _) _ | exact Blk.drew (B1.out.alloc _)) (by simp)
  have B2x := o.blk (t := 23) (cs := #[.int .i64 1, .int .i64 0]) (g := w.heap.size + 2) (by first | exact (B2.out.alloc _) | exact Blk.drewN (B2.out.alloc _) _ | exact Blk.drew (B2.out.alloc _)) (by simp)
  have B3x := o.blk (t := 23) (cs := #[.int .i64 s.1, .int .i64 s.2]) (g := w8.heap.size) (by first | exact (B3.out.alloc _) | exact Blk.drewN (B3.out.alloc _) _ | exact Blk.drew (B3.out.alloc _)) (by simp)
  have B4x := o.blk (t := 23) (cs := #[.int .i64 t.1, .int .i64 t.2]) (g := w9.heap.size) (by first | exact B4n | exact Blk.drewN B4n _ | exact Blk.drew B4n) (by simp)
  have O10x : Only [] w w10 := (by first | exact Only.trans (O9.out.alloc _) o (by simp) | exact Only.trans (Only.drewN (O9.out.alloc _) _) o (by simp) | exact Only.trans (Only.drew (O9.out.alloc _)) o (by simp))
  obtain ⟨B0c0, B0c1, B0l⟩ := B0x.facts2
  obtain ⟨B1c0, B1c1, B1l⟩ := B1x.facts2
  obtain ⟨B2c0, B2c1, B2l⟩ := B2x.facts2
  obtain ⟨B3c0, B3c1, B3l⟩ := B3x.facts2
  obtain ⟨B4c0, B4c1, B4l⟩ := B4x.facts2
  clear B0 B1 B2 B3 B4n O9 o
  have B0 := Lib.hid B0x; have B1 := Lib.hid B1x; have B2 := Lib.hid B2x; have B3 := Lib.hid B3x; have B4 := Lib.hid B4x; have O10 := Lib.hid O10x
  clear B0x B1x B2x B3x B4x O10x
  refine hK.out _ _ ?_ (fun hHeld2 => ?_)
  · first | (go_keep; done) | (refine ⟨?_, ?_⟩ <;> (go_simp; done))
  clear hK K hHeld
  have hHeld := hHeld2; clear hHeld2
  try simp only [Act.put, List.setIfInBounds_toArray, List.set_cons_zero, List.set_cons_succ]
  refine wpAnyH_take (i := 9) (v := ?_) rfl (by kernel_rfl) (by kernel_rfl) (by kernel_rfl) (fun _ _ _ h => h) (Or.inl ⟨by kernel_rfl, ?_⟩) hHeld ?_
  rotate_left
  · (intro w hSw; (try dsimp only at hSw); go_simp; try with_reducible rfl)
  change wpAnyH _ _ _ _ _ _ _ (Act.put _ (some 87) _) _
  simp only [Act.put, List.setIfInBounds_toArray, List.set_cons_zero, List.set_cons_succ]
  refine wpAnyH_take (i := 10) (v := ?_) rfl (by kernel_rfl) (by kernel_rfl) (by kernel_rfl) (fun _ _ _ h => h) (Or.inl ⟨by kernel_rfl, ?_⟩) hHeld ?_
  rotate_left
  · (intro w hSw; (try dsimp only at hSw); go_simp; try with_reducible rfl)
  change wpAnyH _ _ _ _ _ _ _ (Act.put _ (some 88) _) _
  simp only [Act.put, List.setIfInBounds_toArray, List.set_cons_zero, List.set_cons_succ]
  refine wpAnyH_take (i := 11) (v := ?_) rfl (by kernel_rfl) (by kernel_rfl) (by kernel_rfl) (fun _ _ _ h => h) (Or.inl ⟨by kernel_rfl, ?_⟩) hHeld ?_
  rotate_left
  · (intro w hSw; (try dsimp only at hSw); go_simp; try with_reducible rfl)
  change wpAnyH _ _ _ _ _ _ _ (Act.put _ (some 89) _) _
  simp only [Act.put, List.setIfInBounds_toArray, List.set_cons_zero, List.set_cons_succ]
  refine wpAnyH_take (i := 12) (v := undef) rfl (by kernel_rfl) (by kernel_rfl) (by kernel_rfl) (fun _ _ _ h => h) (Or.inr ⟨by kernel_rfl, rfl⟩) hHeld ?_
  change wpAnyH _ _ _ _ _ _ _ (Act.put _ (some 90) _) _
  simp only [Act.put, List.setIfInBounds_toArray, List.set_cons_zero, List.set_cons_succ]
  refine wpAnyH_take (i := 13) (v := undef) rfl (by kernel_rfl) (by kernel_rfl) (by kernel_rfl) (fun _ _ _ h => h) (Or.inr ⟨by kernel_rfl, rfl⟩) hHeld ?_
  change wpAnyH _ _ _ _ _ _ _ (Act.put _ (some 91) _) _
  simp only [Act.put, List.setIfInBounds_toArray, List.set_cons_zero, List.set_cons_succ]
  refine wpAnyH_take (i := 14) (v := undef) rfl (by kernel_rfl) (by kernel_rfl) (by kernel_rfl) (fun _ _ _ h => h) (Or.inr ⟨by kernel_rfl, rfl⟩) hHeld ?_
  change wpAnyH _ _ _ _ _ _ _ (Act.put _ (some 92) _) _
  simp only [Act.put, List.setIfInBounds_toArray, List.set_cons_zero, List.set_cons_succ]
  refine wpAnyH_take (i := 15) (v := undef) rfl (by kernel_rfl) (by kernel_rfl) (by kernel_rfl) (fun _ _ _ h => h) (Or.inr ⟨by kernel_rfl, rfl⟩) hHeld ?_
  change wpAnyH _ _ _ _ _ _ _ (Act.put _ (some 93) _) _
  simp only [Act.put, List.setIfInBounds_toArray, List.set_cons_zero, List.set_cons_succ]
  refine wpAnyH_take (i := 16) (v := undef) rfl (by kernel_rfl) (by kernel_rfl) (by kernel_rfl) (fun _ _ _ h => h) (Or.inr ⟨by kernel_rfl, rfl⟩) hHeld ?_
  change wpAnyH _ _ _ _ _ _ _ (Act.put _ (some 94) _) _
  simp only [Act.put, List.setIfInBounds_toArray, List.set_cons_zero, List.set_cons_succ]
  refine wpAnyH_take (i := 17) (v := ?_) rfl (by kernel_rfl) (by kernel_rfl) (by kernel_rfl) (fun _ _ _ h => h) (Or.inl ⟨by kernel_rfl, ?_⟩) hHeld ?_
  rotate_left
  · (intro w hSw; (try dsimp only at hSw); go_simp; try with_reducible rfl)
  change wpAnyH _ _ _ _ _ _ _ (Act.put _ (some 95) _) _
  simp only [Act.put, List.setIfInBounds_toArray, List.set_cons_zero, List.set_cons_succ]
  refine wpAnyH_take (i := 18) (v := ?_) rfl (by kernel_rfl) (by kernel_rfl) (by kernel_rfl) (fun _ _ _ h => h) (Or.inl ⟨by kernel_rfl, ?_⟩) hHeld ?_
  rotate_left
  · (intro w hSw; (try dsimp only at hSw); go_simp; try with_reducible rfl)
  change wpAnyH _ _ _ _ _ _ _ (Act.put _ (some 6) _) _
  simp only [Act.put, List.setIfInBounds_toArray, List.set_cons_zero, List.set_cons_succ]
  refine wpAnyH_done (by kernel_rfl) ?_ _
  go_wp2_with (fail)
  go_ret
  exact ⟨rfl, by first | exact O10.out | exact Only.drewN O10.out _ | exact Only.drew O10.out⟩


set_option maxHeartbeats 2000000 in
theorem orders_p_c (a b c : Tm) (ha : a.ok) (hb : b.ok) (hc : c.ok) (hx : cmpT a b = 1) (hy : cmpT b a = (-1)) (ra : a.right = true) (rb : b.right = true) (rc : Tm.right c = true) (hne : a ≠ b) {s t : Tm} {e f : Int} (h1 : addT a c = (s, e)) (h2 : addT b c = (t, f)) (he : e = 0) (hf : f = 0) (hs : s.ok) (ht : t.ok) (hc2 : c.2 ≠ 0) (h5 : cmpT s t = 1) (w : World) :
    Calls Tryd.prog 7 #[.agg #[.int .i64 a.1, .int .i64 a.2], .agg #[.int .i64 b.1, .int .i64 b.2], .agg #[.int .i64 c.1, .int .i64 c.2]] w fun r w' => r = .returned (.bool true) ∧ Only [] w w' := by
  have HX := Lib.hid hx
  have HY := Lib.hid hy
  clear hx hy
  have RA := Lib.hid ra
  have RB := Lib.hid rb
  have RC := Lib.hid rc
  clear ra rb rc
  have hEQ := eq_timesF hne
  clear hne
  have H1 := Lib.hid h1
  have H2 := Lib.hid h2
  clear h1 h2
  subst he hf
  have hEN := eq_timesF (a := c) (b := (1, 0)) (fun e => hc2 (by rw [e]))
  have H5 := Lib.hid h5
  clear hc2 h5
  have O0 := Lib.hid (Only.refl [] w)
  go_enter Tryd.func7, Tryd.ntmps7
  go_wp2_with (fail)
  refine (cmpr a b ha hb HX.out _).mono ?_
  rintro e w1 ⟨rfl, o⟩
  have B0n : Blk (w.alloc (.cells #[.int .i64 a.1, .int .i64 a.2] 23)) (w.heap.size) 23 #[.int .i64 a.1, .int .i64 a.2] := (by have h := Blk.new w 23 #[.int .i64 a.1, .int .i64 a.2]; simpa using h)
  have B1n : Blk ((w.alloc (.cells #[.int .i64 a.1, .int .i64 a.2] 23)).alloc (.cells #[.int .i64 b.1, .int .i64 b.2] 23)) (w.heap.size + 1) 23 #[.int .i64 b.1, .int .i64 b.2] := (by have h := Blk.new (w.alloc (.cells #[.int .i64 a.1, .int .i64 a.2] 23)) 23 #[.int .i64 b.1, .int .i64 b.2]; simpa using h)
  have B2n : Blk (((w.alloc (.cells #[.int .i64 a.1, .int .i64 a.2] 23)).alloc (.cells #[.int .i64 b.1, .int .i64 b.2] 23)).alloc (.cells #[.int .i64 c.1, .int .i64 c.2] 23)) (w.heap.size + 2) 23 #[.int .i64 c.1, .int .i64 c.2] := (by have h := Blk.new ((w.alloc (.cells #[.int .i64 a.1, .int .i64 a.2] 23)).alloc (.cells #[.int .i64 b.1, .int .i64 b.2] 23)) 23 #[.int .i64 c.1, .int .i64 c.2]; simpa using h)
  have B0x := o.blk (t := 23) (cs := #[.int .i64 a.1, .int .i64 a.2]) (g := w.heap.size) (by first | exact ((B0n.alloc _).alloc _) | exact Blk.drewN ((B0n.alloc _).alloc _) _ | exact Blk.drew ((B0n.alloc _).alloc _)) (by simp)
  have B1x := o.blk (t := 23) (cs := #[.int .i64 b.1, .int .i64 b.2]) (g := w.heap.size + 1) (by first | exact (B1n.alloc _) | exact Blk.drewN (B1n.alloc _) _ | exact Blk.drew (B1n.alloc _)) (by simp)
  have B2x := o.blk (t := 23) (cs := #[.int .i64 c.1, .int .i64 c.2]) (g := w.heap.size + 2) (by first | exact B2n | exact Blk.drewN B2n _ | exact Blk.drew B2n) (by simp)
  have O1x : Only [] w w1 := (by first | exact Only.trans (((O0.out.alloc _).alloc _).alloc _) o (by simp) | exact Only.trans (Only.drewN (((O0.out.alloc _).alloc _).alloc _) _) o (by simp) | exact Only.trans (Only.drew (((O0.out.alloc _).alloc _).alloc _)) o (by simp))
  obtain ⟨B0c0, B0c1, B0l⟩ := B0x.facts2
  obtain ⟨B1c0, B1c1, B1l⟩ := B1x.facts2
  obtain ⟨B2c0, B2c1, B2l⟩ := B2x.facts2
  clear B0n B1n B2n O0 o
  have B0 := Lib.hid B0x; have B1 := Lib.hid B1x; have B2 := Lib.hid B2x; have O1 := Lib.hid O1x
  clear B0x B1x B2x O1x
  go_wp2_with (fail)
  refine (awake_any _).mono ?_
  rintro e w2 ⟨rfl, o⟩
  have B0x := o.blk (t := 23) (cs := #[.int .i64 a.1, .int .i64 a.2]) (g := w.heap.size) (by first | exact B0.out | exact Blk.drewN B0.out _ | exact Blk.drew B0.out) (by simp)
  have B1x := o.blk (t := 23) (cs := #[.int .i64 b.1, .int .i64 b.2]) (g := w.heap.size + 1) (by first | exact B1.out | exact Blk.drewN B1.out _ | exact Blk.drew B1.out) (by simp)
  have B2x := o.blk (t := 23) (cs := #[.int .i64 c.1, .int .i64 c.2]) (g := w.heap.size + 2) (by first | exact B2.out | exact Blk.drewN B2.out _ | exact Blk.drew B2.out) (by simp)
  have O2x : Only [] w w2 := (by first | exact Only.trans O1.out o (by simp) | exact Only.trans (Only.drewN O1.out _) o (by simp) | exact Only.trans (Only.drew O1.out) o (by simp))
  obtain ⟨B0c0, B0c1, B0l⟩ := B0x.facts2
  obtain ⟨B1c0, B1c1, B1l⟩ := B1x.facts2
  obtain ⟨B2c0, B2c1, B2l⟩ := B2x.facts2
  clear B0 B1 B2 O1 o
  have B0 := Lib.hid B0x; have B1 := Lib.hid B1x; have B2 := Lib.hid B2x; have O2 := Lib.hid O2x
  clear B0x B1x B2x O2x
  go_wp2_with (fail)
  refine (cmpr b a hb ha HY.out _).mono ?_
  rintro e w3 ⟨rfl, o⟩
  have B0x := o.blk (t := 23) (cs := #[.int .i64 a.1, .int .i64 a.2]) (g := w.heap.size) (by first | exact B0.out | exact Blk.drewN B0.out _ | exact Blk.drew B0.out) (by simp)
  have B1x := o.blk (t := 23) (cs := #[.int .i64 b.1, .int .i64 b.2]) (g := w.heap.size + 1) (by first | exact B1.out | exact Blk.drewN B1.out _ | exact Blk.drew B1.out) (by simp)
  have B2x := o.blk (t := 23) (cs := #[.int .i64 c.1, .int .i64 c.2]) (g := w.heap.size + 2) (by first | exact B2.out | exact Blk.drewN B2.out _ | exact Blk.drew B2.out) (by simp)
  have O3x : Only [] w w3 := (by first | exact Only.trans O2.out o (by simp) | exact Only.trans (Only.drewN O2.out _) o (by simp) | exact Only.trans (Only.drew O2.out) o (by simp))
  obtain ⟨B0c0, B0c1, B0l⟩ := B0x.facts2
  obtain ⟨B1c0, B1c1, B1l⟩ := B1x.facts2
  obtain ⟨B2c0, B2c1, B2l⟩ := B2x.facts2
  clear B0 B1 B2 O2 o
  have B0 := Lib.hid B0x; have B1 := Lib.hid B1x; have B2 := Lib.hid B2x; have O3 := Lib.hid O3x
  clear B0x B1x B2x O3x
  go_wp2_with (fail)
  refine (cmpr a a ha ha (cmp_self a) _).mono ?_
  rintro e w4 ⟨rfl, o⟩
  have B0x := o.blk (t := 23) (cs := #[.int .i64 a.1, .int .i64 a.2]) (g := w.heap.size) (by first | exact B0.out | exact Blk.drewN B0.out _ | exact Blk.drew B0.out) (by simp)
  have B1x := o.blk (t := 23) (cs := #[.int .i64 b.1, .int .i64 b.2]) (g := w.heap.size + 1) (by first | exact B1.out | exact Blk.drewN B1.out _ | exact Blk.drew B1.out) (by simp)
  have B2x := o.blk (t := 23) (cs := #[.int .i64 c.1, .int .i64 c.2]) (g := w.heap.size + 2) (by first | exact B2.out | exact Blk.drewN B2.out _ | exact Blk.drew B2.out) (by simp)
  have O4x : Only [] w w4 := (by first | exact Only.trans O3.out o (by simp) | exact Only.trans (Only.drewN O3.out _) o (by simp) | exact Only.trans (Only.drew O3.out) o (by simp))
  obtain ⟨B0c0, B0c1, B0l⟩ := B0x.facts2
  obtain ⟨B1c0, B1c1, B1l⟩ := B1x.facts2
  obtain ⟨B2c0, B2c1, B2l⟩ := B2x.facts2
  clear B0 B1 B2 O3 o
  have B0 := Lib.hid B0x; have B1 := Lib.hid B1x; have B2 := Lib.hid B2x; have O4 := Lib.hid O4x
  clear B0x B1x B2x O4x
  go_wp2_with (fail)
  refine (right_t ha.1 ha.2 RA.out _).mono ?_
  rintro e w5 ⟨rfl, o⟩
  have B0x := o.blk (t := 23) (cs := #[.int .i64 a.1, .int .i64 a.2]) (g := w.heap.size) (by first | exact B0.out | exact Blk.drewN B0.out _ | exact Blk.drew B0.out) (by simp)
  have B1x := o.blk (t := 23) (cs := #[.int .i64 b.1, .int .i64 b.2]) (g := w.heap.size + 1) (by first | exact B1.out | exact Blk.drewN B1.out _ | exact Blk.drew B1.out) (by simp)
  have B2x := o.blk (t := 23) (cs := #[.int .i64 c.1, .int .i64 c.2]) (g := w.heap.size + 2) (by first | exact B2.out | exact Blk.drewN B2.out _ | exact Blk.drew B2.out) (by simp)
  have O5x : Only [] w w5 := (by first | exact Only.trans O4.out o (by simp) | exact Only.trans (Only.drewN O4.out _) o (by simp) | exact Only.trans (Only.drew O4.out) o (by simp))
  obtain ⟨B0c0, B0c1, B0l⟩ := B0x.facts2
  obtain ⟨B1c0, B1c1, B1l⟩ := B1x.facts2
  obtain ⟨B2c0, B2c1, B2l⟩ := B2x.facts2
  clear B0 B1 B2 O4 o
  have B0 := Lib.hid B0x; have B1 := Lib.hid B1x; have B2 := Lib.hid B2x; have O5 := Lib.hid O5x
  clear B0x B1x B2x O5x
  go_wp2_with (fail)
  refine (right_t hb.1 hb.2 RB.out _).mono ?_
  rintro e w6 ⟨rfl, o⟩
  have B0x := o.blk (t := 23) (cs := #[.int .i64 a.1, .int .i64 a.2]) (g := w.heap.size) (by first | exact B0.out | exact Blk.drewN B0.out _ | exact Blk.drew B0.out) (by simp)
  have B1x := o.blk (t := 23) (cs := #[.int .i64 b.1, .int .i64 b.2]) (g := w.heap.size + 1) (by first | exact B1.out | exact Blk.drewN B1.out _ | exact Blk.drew B1.out) (by simp)
  have B2x := o.blk (t := 23) (cs := #[.int .i64 c.1, .int .i64 c.2]) (g := w.heap.size + 2) (by first | exact B2.out | exact Blk.drewN B2.out _ | exact Blk.drew B2.out) (by simp)
  have O6x : Only [] w w6 := (by first | exact Only.trans O5.out o (by simp) | exact Only.trans (Only.drewN O5.out _) o (by simp) | exact Only.trans (Only.drew O5.out) o (by simp))
  obtain ⟨B0c0, B0c1, B0l⟩ := B0x.facts2
  obtain ⟨B1c0, B1c1, B1l⟩ := B1x.facts2
  obtain ⟨B2c0, B2c1, B2l⟩ := B2x.facts2
  clear B0 B1 B2 O5 o
  have B0 := Lib.hid B0x; have B1 := Lib.hid B1x; have B2 := Lib.hid B2x; have O6 := Lib.hid O6x
  clear B0x B1x B2x O6x
  go_wp2_with (fail)
  refine (right_t hc.1 hc.2 RC.out _).mono ?_
  rintro e w7 ⟨rfl, o⟩
  have B0x := o.blk (t := 23) (cs := #[.int .i64 a.1, .int .i64 a.2]) (g := w.heap.size) (by first | exact B0.out | exact Blk.drewN B0.out _ | exact Blk.drew B0.out) (by simp)
  have B1x := o.blk (t := 23) (cs := #[.int .i64 b.1, .int .i64 b.2]) (g := w.heap.size + 1) (by first | exact B1.out | exact Blk.drewN B1.out _ | exact Blk.drew B1.out) (by simp)
  have B2x := o.blk (t := 23) (cs := #[.int .i64 c.1, .int .i64 c.2]) (g := w.heap.size + 2) (by first | exact B2.out | exact Blk.drewN B2.out _ | exact Blk.drew B2.out) (by simp)
  have O7x : Only [] w w7 := (by first | exact Only.trans O6.out o (by simp) | exact Only.trans (Only.drewN O6.out _) o (by simp) | exact Only.trans (Only.drew O6.out) o (by simp))
  obtain ⟨B0c0, B0c1, B0l⟩ := B0x.facts2
  obtain ⟨B1c0, B1c1, B1l⟩ := B1x.facts2
  obtain ⟨B2c0, B2c1, B2l⟩ := B2x.facts2
  clear B0 B1 B2 O6 o
  have B0 := Lib.hid B0x; have B1 := Lib.hid B1x; have B2 := Lib.hid B2x; have O7 := Lib.hid O7x
  clear B0x B1x B2x O7x
  go_wp2_with (fail)
  refine (addr a c ha hc H1.out _).mono ?_
  rintro e w8 ⟨rfl, o⟩
  have B0x := o.blk (t := 23) (cs := #[.int .i64 a.1, .int .i64 a.2]) (g := w.heap.size) (by first | exact B0.out | exact Blk.drewN B0.out _ | exact Blk.drew B0.out) (by simp)
  have B1x := o.blk (t := 23) (cs := #[.int .i64 b.1, .int .i64 b.2]) (g := w.heap.size + 1) (by first | exact B1.out | exact Blk.drewN B1.out _ | exact Blk.drew B1.out) (by simp)
  have B2x := o.blk (t := 23) (cs := #[.int .i64 c.1, .int .i64 c.2]) (g := w.heap.size + 2) (by first | exact B2.out | exact Blk.drewN B2.out _ | exact Blk.drew B2.out) (by simp)
  have O8x : Only [] w w8 := (by first | exact Only.trans O7.out o (by simp) | exact Only.trans (Only.drewN O7.out _) o (by simp) | exact Only.trans (Only.drew O7.out) o (by simp))
  obtain ⟨B0c0, B0c1, B0l⟩ := B0x.facts2
  obtain ⟨B1c0, B1c1, B1l⟩ := B1x.facts2
  obtain ⟨B2c0, B2c1, B2l⟩ := B2x.facts2
  clear B0 B1 B2 O7 o
  have B0 := Lib.hid B0x; have B1 := Lib.hid B1x; have B2 := Lib.hid B2x; have O8 := Lib.hid O8x
  clear B0x B1x B2x O8x
  go_wp2_with (fail)
  refine (addr b c hb hc H2.out _).mono ?_
  rintro e w9 ⟨rfl, o⟩
  have B3n : Blk (w8.alloc (.cells #[.int .i64 s.1, .int .i64 s.2] 23)) (w8.heap.size) 23 #[.int .i64 s.1, .int .i64 s.2] := (by have h := Blk.new w8 23 #[.int .i64 s.1, .int .i64 s.2]; simpa using h)
  have B0x := o.blk (t := 23) (cs := #[.int .i64 a.1, .int .i64 a.2]) (g := w.heap.size) (by first | exact (B0.out.alloc _) | exact Blk.drewN (B0.out.alloc _) _ | exact Blk.drew (B0.out.alloc _)) (by simp)
  have B1x := o.blk (t := 23) (cs := #[.int .i64 b.1, .int .i64 b.2]) (g := w.heap.size + 1) (by first | exact (B1.out.alloc _) | exact Blk.drewN (B1.out.alloc _) _ | exact Blk.drew (B1.out.alloc _)) (by simp)
  have B2x := o.blk (t := 23) (cs := #[.int .i64 c.1, .int .i64 c.2]) (g := w.heap.size + 2) (by first | exact (B2.out.alloc _) | exact Blk.drewN (B2.out.alloc _) _ | exact Blk.drew (B2.out.alloc _)) (by simp)
  have B3x := o.blk (t := 23) (cs := #[.int .i64 s.1, .int .i64 s.2]) (g := w8.heap.size) (by first | exact B3n | exact Blk.drewN B3n _ | exact Blk.drew B3n) (by simp)
  have O9x : Only [] w w9 := (by first | exact Only.trans (O8.out.alloc _) o (by simp) | exact Only.trans (Only.drewN (O8.out.alloc _) _) o (by simp) | exact Only.trans (Only.drew (O8.out.alloc _)) o (by simp))
  obtain ⟨B0c0, B0c1, B0l⟩ := B0x.facts2
  obtain ⟨B1c0, B1c1, B1l⟩ := B1x.facts2
  obtain ⟨B2c0, B2c1, B2l⟩ := B2x.facts2
  obtain ⟨B3c0, B3c1, B3l⟩ := B3x.facts2
  clear B0 B1 B2 B3n O8 o
  have B0 := Lib.hid B0x; have B1 := Lib.hid B1x; have B2 := Lib.hid B2x; have B3 := Lib.hid B3x; have O9 := Lib.hid O9x
  clear B0x B1x B2x B3x O9x
  go_wp2_with (fail)
  go_region_held3 (fun w' => w'.cell? ⟨w.heap.size + 2, 0, none⟩ = some (.int .i64 c.1) ∧ w'.cell? ⟨w.heap.size + 2, 1, none⟩ = some (.int .i64 c.2) ∧ w'.cell? ⟨w8.heap.size, 0, none⟩ = some (.int .i64 s.1) ∧ w'.cell? ⟨w8.heap.size, 1, none⟩ = some (.int .i64 s.2) ∧ w'.cell? ⟨w9.heap.size, 0, none⟩ = some (.int .i64 t.1) ∧ w'.cell? ⟨w9.heap.size, 1, none⟩ = some (.int .i64 t.2)) (first | (go_keep; done) | (refine ⟨?_, ?_, ?_, ?_, ?_, ?_⟩ <;> (go_simp; done)))
    (first
      | (go_at_call 22; refine (never_any _).mono ?_; rintro e w10 ⟨rfl, o⟩; have B4n : Blk (w9.alloc (.cells #[.int .i64 t.1, .int .i64 t.2] 23)) (w9.heap.size) 23 #[.int .i64 t.1, .int .i64 t.2] := (by have h := Blk.new w9 23 #[.int .i64 t.1, .int .i64 t.2]; simpa using h); have B0x := o.blk (t := 23) (cs := #[.int .i64 a.1, .int .i64 a.2]) (g := w.heap.size) (by first | exact (B0.out.alloc _) | exact Blk.drewN (B0.out.alloc _) _ | exact Blk.drew (B0.out.alloc _)) (by simp); have B1x := o.blk (t := 23) (cs := #[.int .i64 b.1, .int .i64 b.2]) (g := w.heap.size + 1) (by first | exact (B1.out.alloc _) | exact Blk.drewN (B1.out.alloc _) _ | exact Blk.drew (B1.out.alloc _)) (by simp); have B2x := o.blk (t := 23) (cs := #[.int .i64 c.1, .int .i64 c.2]) (g := w.heap.size + 2) (by first | exact (B2.out.alloc _) | exact Blk.drewN (B2.out.alloc _) _ | exact Blk.drew (B2.out.alloc _)) (by simp); have B3x := o.blk (t := 23) (cs := #[.int .i64 s.1, .int .i64 s.2]) (g := w8.heap.size) (by first | exact (B3.out.alloc _) | exact Blk.drewN (B3.out.alloc _) _ | exact Blk.drew (B3.out.alloc _)) (by simp); have B4x := o.blk (t := 23) (cs := #[.int .i64 t.1, .int .i64 t.2]) (g := w9.heap.size) (by first | exact B4n | exact Blk.drewN B4n _ | exact Blk.drew B4n) (by simp); have O10x : Only [] w w10 := (by first | exact Only.trans (O9.out.alloc _) o (by simp) | exact Only.trans (Only.drewN (O9.out.alloc _) _) o (by simp) | exact Only.trans (Only.drew (O9.out.alloc _)) o (by simp)); obtain ⟨B0c0, B0c1, B0l⟩ := B0x.facts2; obtain ⟨B1c0, B1c1, B1l⟩ := B1x.facts2; obtain ⟨B2c0, B2c1, B2l⟩ := B2x.facts2; obtain ⟨B3c0, B3c1, B3l⟩ := B3x.facts2; obtain ⟨B4c0, B4c1, B4l⟩ := B4x.facts2; clear B0 B1 B2 B3 B4n O9 o; have B0 := Lib.hid B0x; have B1 := Lib.hid B1x; have B2 := Lib.hid B2x; have B3 := Lib.hid B3x; have B4 := Lib.hid B4x; have O10 := Lib.hid O10x; clear B0x B1x B2x B3x B4x O10x)
      | (go_at_call 16; refine (cmpr s t hs ht H5.out _).mono ?_; rintro e w11 ⟨rfl, o⟩; have B0x := o.blk (t := 23) (cs := #[.int .i64 a.1, .int .i64 a.2]) (g := w.heap.size) (by first | exact B0.out | exact Blk.drewN B0.out _ | exact Blk.drew B0.out) (by simp); have B1x := o.blk (t := 23) (cs := #[.int .i64 b.1, .int .i64 b.2]) (g := w.heap.size + 1) (by first | exact B1.out | exact Blk.drewN B1.out _ | exact Blk.drew B1.out) (by simp); have B2x := o.blk (t := 23) (cs := #[.int .i64 c.1, .int .i64 c.2]) (g := w.heap.size + 2) (by first | exact B2.out | exact Blk.drewN B2.out _ | exact Blk.drew B2.out) (by simp); have B3x := o.blk (t := 23) (cs := #[.int .i64 s.1, .int .i64 s.2]) (g := w8.heap.size) (by first | exact B3.out | exact Blk.drewN B3.out _ | exact Blk.drew B3.out) (by simp); have B4x := o.blk (t := 23) (cs := #[.int .i64 t.1, .int .i64 t.2]) (g := w9.heap.size) (by first | exact B4.out | exact Blk.drewN B4.out _ | exact Blk.drew B4.out) (by simp); have O11x : Only [] w w11 := (by first | exact Only.trans O10.out o (by simp) | exact Only.trans (Only.drewN O10.out _) o (by simp) | exact Only.trans (Only.drew O10.out) o (by simp)); obtain ⟨B0c0, B0c1, B0l⟩ := B0x.facts2; obtain ⟨B1c0, B1c1, B1l⟩ := B1x.facts2; obtain ⟨B2c0, B2c1, B2l⟩ := B2x.facts2; obtain ⟨B3c0, B3c1, B3l⟩ := B3x.facts2; obtain ⟨B4c0, B4c1, B4l⟩ := B4x.facts2; clear B0 B1 B2 B3 B4 O10 o; have B0 := Lib.hid B0x; have B1 := Lib.hid B1x; have B2 := Lib.hid B2x; have B3 := Lib.hid B3x; have B4 := Lib.hid B4x; have O11 := Lib.hid O11x; clear B0x B1x B2x B3x B4x O11x))
  go_wp2_with (fail)
  go_ret
  exact ⟨by simp, by first | exact O11.out | exact Only.drewN O11.out _ | exact Only.drew O11.out⟩


set_option maxHeartbeats 2000000 in
theorem orders_zle_e (a c : Tm) (ha : a.ok) (hc : c.ok) (hx : cmpT a a = 0) (hy : cmpT a a = 0) (ra : a.right = true) (rb : a.right = true) (rc : Tm.right c = true) {y : Int} (h3 : cmpT a c = y) (hle : y ≤ 0) {z : Int} (h4 : cmpT a c = z) (hz : z ≤ 0) {s t : Tm} {e f : Int} (h1 : addT a c = (s, e)) (h2 : addT a c = (t, f)) (he : e ≠ 0) (w : World) :
    Calls Tryd.prog 7 #[.agg #[.int .i64 a.1, .int .i64 a.2], .agg #[.int .i64 a.1, .int .i64 a.2], .agg #[.int .i64 c.1, .int .i64 c.2]] w fun r w' => r = .returned (.bool true) ∧ Only [] w w' := by
  have HX := Lib.hid hx
  have HY := Lib.hid hy
  clear hx hy
  have RA := Lib.hid ra
  have RB := Lib.hid rb
  have RC := Lib.hid rc
  clear ra rb rc
  have H3 := Lib.hid h3
  clear h3
  have H4 := Lib.hid h4
  clear h4
  have hle' : decide (y ≤ 0) = true := by simpa using hle
  have hz' : decide (0 < z) = false := by simp; omega
  clear hle hz
  have H1 := Lib.hid h1
  have H2 := Lib.hid h2
  clear h1 h2
  have he' : (e != 0) = true := by simpa using he
  clear he
  have O0 := Lib.hid (Only.refl [] w)
  go_enter Tryd.func7, Tryd.ntmps7
  go_wp2_with (fail)
  refine (cmpr a a ha ha HX.out _).mono ?_
  rintro e w1 ⟨rfl, o⟩
  have B0n : Blk (w.alloc (.cells #[.int .i64 a.1, .int .i64 a.2] 23)) (w.heap.size) 23 #[.int .i64 a.1, .int .i64 a.2] := (by have h := Blk.new w 23 #[.int .i64 a.1, .int .i64 a.2]; simpa using h)
  have B1n : Blk ((w.alloc (.cells #[.int .i64 a.1, .int .i64 a.2] 23)).alloc (.cells #[.int .i64 a.1, .int .i64 a.2] 23)) (w.heap.size + 1) 23 #[.int .i64 a.1, .int .i64 a.2] := (by have h := Blk.new (w.alloc (.cells #[.int .i64 a.1, .int .i64 a.2] 23)) 23 #[.int .i64 a.1, .int .i64 a.2]; simpa using h)
  have B2n : Blk (((w.alloc (.cells #[.int .i64 a.1, .int .i64 a.2] 23)).alloc (.cells #[.int .i64 a.1, .int .i64 a.2] 23)).alloc (.cells #[.int .i64 c.1, .int .i64 c.2] 23)) (w.heap.size + 2) 23 #[.int .i64 c.1, .int .i64 c.2] := (by have h := Blk.new ((w.alloc (.cells #[.int .i64 a.1, .int .i64 a.2] 23)).alloc (.cells #[.int .i64 a.1, .int .i64 a.2] 23)) 23 #[.int .i64 c.1, .int .i64 c.2]; simpa using h)
  have B0x := o.blk (t := 23) (cs := #[.int .i64 a.1, .int .i64 a.2]) (g := w.heap.size) (by first | exact ((B0n.alloc _).alloc _) | exact Blk.drewN ((B0n.alloc _).alloc _) _ | exact Blk.drew ((B0n.alloc _).alloc _)) (by simp)
  have B1x := o.blk (t := 23) (cs := #[.int .i64 a.1, .int .i64 a.2]) (g := w.heap.size + 1) (by first | exact (B1n.alloc _) | exact Blk.drewN (B1n.alloc _) _ | exact Blk.drew (B1n.alloc _)) (by simp)
  have B2x := o.blk (t := 23) (cs := #[.int .i64 c.1, .int .i64 c.2]) (g := w.heap.size + 2) (by first | exact B2n | exact Blk.drewN B2n _ | exact Blk.drew B2n) (by simp)
  have O1x : Only [] w w1 := (by first | exact Only.trans (((O0.out.alloc _).alloc _).alloc _) o (by simp) | exact Only.trans (Only.drewN (((O0.out.alloc _).alloc _).alloc _) _) o (by simp) | exact Only.trans (Only.drew (((O0.out.alloc _).alloc _).alloc _)) o (by simp))
  obtain ⟨B0c0, B0c1, B0l⟩ := B0x.facts2
  obtain ⟨B1c0, B1c1, B1l⟩ := B1x.facts2
  obtain ⟨B2c0, B2c1, B2l⟩ := B2x.facts2
  clear B0n B1n B2n O0 o
  have B0 := Lib.hid B0x; have B1 := Lib.hid B1x; have B2 := Lib.hid B2x; have O1 := Lib.hid O1x
  clear B0x B1x B2x O1x
  go_wp2_with (fail)
  refine (awake_any _).mono ?_
  rintro e w2 ⟨rfl, o⟩
  have B0x := o.blk (t := 23) (cs := #[.int .i64 a.1, .int .i64 a.2]) (g := w.heap.size) (by first | exact B0.out | exact Blk.drewN B0.out _ | exact Blk.drew B0.out) (by simp)
  have B1x := o.blk (t := 23) (cs := #[.int .i64 a.1, .int .i64 a.2]) (g := w.heap.size + 1) (by first | exact B1.out | exact Blk.drewN B1.out _ | exact Blk.drew B1.out) (by simp)
  have B2x := o.blk (t := 23) (cs := #[.int .i64 c.1, .int .i64 c.2]) (g := w.heap.size + 2) (by first | exact B2.out | exact Blk.drewN B2.out _ | exact Blk.drew B2.out) (by simp)
  have O2x : Only [] w w2 := (by first | exact Only.trans O1.out o (by simp) | exact Only.trans (Only.drewN O1.out _) o (by simp) | exact Only.trans (Only.drew O1.out) o (by simp))
  obtain ⟨B0c0, B0c1, B0l⟩ := B0x.facts2
  obtain ⟨B1c0, B1c1, B1l⟩ := B1x.facts2
  obtain ⟨B2c0, B2c1, B2l⟩ := B2x.facts2
  clear B0 B1 B2 O1 o
  have B0 := Lib.hid B0x; have B1 := Lib.hid B1x; have B2 := Lib.hid B2x; have O2 := Lib.hid O2x
  clear B0x B1x B2x O2x
  go_wp2_with (fail)
  refine (cmpr a a ha ha HY.out _).mono ?_
  rintro e w3 ⟨rfl, o⟩
  have B0x := o.blk (t := 23) (cs := #[.int .i64 a.1, .int .i64 a.2]) (g := w.heap.size) (by first | exact B0.out | exact Blk.drewN B0.out _ | exact Blk.drew B0.out) (by simp)
  have B1x := o.blk (t := 23) (cs := #[.int .i64 a.1, .int .i64 a.2]) (g := w.heap.size + 1) (by first | exact B1.out | exact Blk.drewN B1.out _ | exact Blk.drew B1.out) (by simp)
  have B2x := o.blk (t := 23) (cs := #[.int .i64 c.1, .int .i64 c.2]) (g := w.heap.size + 2) (by first | exact B2.out | exact Blk.drewN B2.out _ | exact Blk.drew B2.out) (by simp)
  have O3x : Only [] w w3 := (by first | exact Only.trans O2.out o (by simp) | exact Only.trans (Only.drewN O2.out _) o (by simp) | exact Only.trans (Only.drew O2.out) o (by simp))
  obtain ⟨B0c0, B0c1, B0l⟩ := B0x.facts2
  obtain ⟨B1c0, B1c1, B1l⟩ := B1x.facts2
  obtain ⟨B2c0, B2c1, B2l⟩ := B2x.facts2
  clear B0 B1 B2 O2 o
  have B0 := Lib.hid B0x; have B1 := Lib.hid B1x; have B2 := Lib.hid B2x; have O3 := Lib.hid O3x
  clear B0x B1x B2x O3x
  go_wp2_with (fail)
  refine (cmpr a a ha ha (cmp_self a) _).mono ?_
  rintro e w4 ⟨rfl, o⟩
  have B0x := o.blk (t := 23) (cs := #[.int .i64 a.1, .int .i64 a.2]) (g := w.heap.size) (by first | exact B0.out | exact Blk.drewN B0.out _ | exact Blk.drew B0.out) (by simp)
  have B1x := o.blk (t := 23) (cs := #[.int .i64 a.1, .int .i64 a.2]) (g := w.heap.size + 1) (by first | exact B1.out | exact Blk.drewN B1.out _ | exact Blk.drew B1.out) (by simp)
  have B2x := o.blk (t := 23) (cs := #[.int .i64 c.1, .int .i64 c.2]) (g := w.heap.size + 2) (by first | exact B2.out | exact Blk.drewN B2.out _ | exact Blk.drew B2.out) (by simp)
  have O4x : Only [] w w4 := (by first | exact Only.trans O3.out o (by simp) | exact Only.trans (Only.drewN O3.out _) o (by simp) | exact Only.trans (Only.drew O3.out) o (by simp))
  obtain ⟨B0c0, B0c1, B0l⟩ := B0x.facts2
  obtain ⟨B1c0, B1c1, B1l⟩ := B1x.facts2
  obtain ⟨B2c0, B2c1, B2l⟩ := B2x.facts2
  clear B0 B1 B2 O3 o
  have B0 := Lib.hid B0x; have B1 := Lib.hid B1x; have B2 := Lib.hid B2x; have O4 := Lib.hid O4x
  clear B0x B1x B2x O4x
  go_wp2_with (fail)
  refine (right_t ha.1 ha.2 RA.out _).mono ?_
  rintro e w5 ⟨rfl, o⟩
  have B0x := o.blk (t := 23) (cs := #[.int .i64 a.1, .int .i64 a.2]) (g := w.heap.size) (by first | exact B0.out | exact Blk.drewN B0.out _ | exact Blk.drew B0.out) (by simp)
  have B1x := o.blk (t := 23) (cs := #[.int .i64 a.1, .int .i64 a.2]) (g := w.heap.size + 1) (by first | exact B1.out | exact Blk.drewN B1.out _ | exact Blk.drew B1.out) (by simp)
  have B2x := o.blk (t := 23) (cs := #[.int .i64 c.1, .int .i64 c.2]) (g := w.heap.size + 2) (by first | exact B2.out | exact Blk.drewN B2.out _ | exact Blk.drew B2.out) (by simp)
  have O5x : Only [] w w5 := (by first | exact Only.trans O4.out o (by simp) | exact Only.trans (Only.drewN O4.out _) o (by simp) | exact Only.trans (Only.drew O4.out) o (by simp))
  obtain ⟨B0c0, B0c1, B0l⟩ := B0x.facts2
  obtain ⟨B1c0, B1c1, B1l⟩ := B1x.facts2
  obtain ⟨B2c0, B2c1, B2l⟩ := B2x.facts2
  clear B0 B1 B2 O4 o
  have B0 := Lib.hid B0x; have B1 := Lib.hid B1x; have B2 := Lib.hid B2x; have O5 := Lib.hid O5x
  clear B0x B1x B2x O5x
  go_wp2_with (fail)
  refine (right_t ha.1 ha.2 RB.out _).mono ?_
  rintro e w6 ⟨rfl, o⟩
  have B0x := o.blk (t := 23) (cs := #[.int .i64 a.1, .int .i64 a.2]) (g := w.heap.size) (by first | exact B0.out | exact Blk.drewN B0.out _ | exact Blk.drew B0.out) (by simp)
  have B1x := o.blk (t := 23) (cs := #[.int .i64 a.1, .int .i64 a.2]) (g := w.heap.size + 1) (by first | exact B1.out | exact Blk.drewN B1.out _ | exact Blk.drew B1.out) (by simp)
  have B2x := o.blk (t := 23) (cs := #[.int .i64 c.1, .int .i64 c.2]) (g := w.heap.size + 2) (by first | exact B2.out | exact Blk.drewN B2.out _ | exact Blk.drew B2.out) (by simp)
  have O6x : Only [] w w6 := (by first | exact Only.trans O5.out o (by simp) | exact Only.trans (Only.drewN O5.out _) o (by simp) | exact Only.trans (Only.drew O5.out) o (by simp))
  obtain ⟨B0c0, B0c1, B0l⟩ := B0x.facts2
  obtain ⟨B1c0, B1c1, B1l⟩ := B1x.facts2
  obtain ⟨B2c0, B2c1, B2l⟩ := B2x.facts2
  clear B0 B1 B2 O5 o
  have B0 := Lib.hid B0x; have B1 := Lib.hid B1x; have B2 := Lib.hid B2x; have O6 := Lib.hid O6x
  clear B0x B1x B2x O6x
  go_wp2_with (fail)
  refine (right_t hc.1 hc.2 RC.out _).mono ?_
  rintro e w7 ⟨rfl, o⟩
  have B0x := o.blk (t := 23) (cs := #[.int .i64 a.1, .int .i64 a.2]) (g := w.heap.size) (by first | exact B0.out | exact Blk.drewN B0.out _ | exact Blk.drew B0.out) (by simp)
  have B1x := o.blk (t := 23) (cs := #[.int .i64 a.1, .int .i64 a.2]) (g := w.heap.size + 1) (by first | exact B1.out | exact Blk.drewN B1.out _ | exact Blk.drew B1.out) (by simp)
  have B2x := o.blk (t := 23) (cs := #[.int .i64 c.1, .int .i64 c.2]) (g := w.heap.size + 2) (by first | exact B2.out | exact Blk.drewN B2.out _ | exact Blk.drew B2.out) (by simp)
  have O7x : Only [] w w7 := (by first | exact Only.trans O6.out o (by simp) | exact Only.trans (Only.drewN O6.out _) o (by simp) | exact Only.trans (Only.drew O6.out) o (by simp))
  obtain ⟨B0c0, B0c1, B0l⟩ := B0x.facts2
  obtain ⟨B1c0, B1c1, B1l⟩ := B1x.facts2
  obtain ⟨B2c0, B2c1, B2l⟩ := B2x.facts2
  clear B0 B1 B2 O6 o
  have B0 := Lib.hid B0x; have B1 := Lib.hid B1x; have B2 := Lib.hid B2x; have O7 := Lib.hid O7x
  clear B0x B1x B2x O7x
  go_wp2_with (fail)
  refine (cmpr a c ha hc H3.out _).mono ?_
  rintro e w8 ⟨rfl, o⟩
  have B0x := o.blk (t := 23) (cs := #[.int .i64 a.1, .int .i64 a.2]) (g := w.heap.size) (by first | exact B0.out | exact Blk.drewN B0.out _ | exact Blk.drew B0.out) (by simp)
  have B1x := o.blk (t := 23) (cs := #[.int .i64 a.1, .int .i64 a.2]) (g := w.heap.size + 1) (by first | exact B1.out | exact Blk.drewN B1.out _ | exact Blk.drew B1.out) (by simp)
  have B2x := o.blk (t := 23) (cs := #[.int .i64 c.1, .int .i64 c.2]) (g := w.heap.size + 2) (by first | exact B2.out | exact Blk.drewN B2.out _ | exact Blk.drew B2.out) (by simp)
  have O8x : Only [] w w8 := (by first | exact Only.trans O7.out o (by simp) | exact Only.trans (Only.drewN O7.out _) o (by simp) | exact Only.trans (Only.drew O7.out) o (by simp))
  obtain ⟨B0c0, B0c1, B0l⟩ := B0x.facts2
  obtain ⟨B1c0, B1c1, B1l⟩ := B1x.facts2
  obtain ⟨B2c0, B2c1, B2l⟩ := B2x.facts2
  clear B0 B1 B2 O7 o
  have B0 := Lib.hid B0x; have B1 := Lib.hid B1x; have B2 := Lib.hid B2x; have O8 := Lib.hid O8x
  clear B0x B1x B2x O8x
  go_wp2_with (fail)
  refine (cmpr a c ha hc H4.out _).mono ?_
  rintro e w9 ⟨rfl, o⟩
  have B0x := o.blk (t := 23) (cs := #[.int .i64 a.1, .int .i64 a.2]) (g := w.heap.size) (by first | exact B0.out | exact Blk.drewN B0.out _ | exact Blk.drew B0.out) (by simp)
  have B1x := o.blk (t := 23) (cs := #[.int .i64 a.1, .int .i64 a.2]) (g := w.heap.size + 1) (by first | exact B1.out | exact Blk.drewN B1.out _ | exact Blk.drew B1.out) (by simp)
  have B2x := o.blk (t := 23) (cs := #[.int .i64 c.1, .int .i64 c.2]) (g := w.heap.size + 2) (by first | exact B2.out | exact Blk.drewN B2.out _ | exact Blk.drew B2.out) (by simp)
  have O9x : Only [] w w9 := (by first | exact Only.trans O8.out o (by simp) | exact Only.trans (Only.drewN O8.out _) o (by simp) | exact Only.trans (Only.drew O8.out) o (by simp))
  obtain ⟨B0c0, B0c1, B0l⟩ := B0x.facts2
  obtain ⟨B1c0, B1c1, B1l⟩ := B1x.facts2
  obtain ⟨B2c0, B2c1, B2l⟩ := B2x.facts2
  clear B0 B1 B2 O8 o
  have B0 := Lib.hid B0x; have B1 := Lib.hid B1x; have B2 := Lib.hid B2x; have O9 := Lib.hid O9x
  clear B0x B1x B2x O9x
  go_wp2_with (fail)
  refine (addr a c ha hc H1.out _).mono ?_
  rintro e w10 ⟨rfl, o⟩
  have B0x := o.blk (t := 23) (cs := #[.int .i64 a.1, .int .i64 a.2]) (g := w.heap.size) (by first | exact B0.out | exact Blk.drewN B0.out _ | exact Blk.drew B0.out) (by simp)
  have B1x := o.blk (t := 23) (cs := #[.int .i64 a.1, .int .i64 a.2]) (g := w.heap.size + 1) (by first | exact B1.out | exact Blk.drewN B1.out _ | exact Blk.drew B1.out) (by simp)
  have B2x := o.blk (t := 23) (cs := #[.int .i64 c.1, .int .i64 c.2]) (g := w.heap.size + 2) (by first | exact B2.out | exact Blk.drewN B2.out _ | exact Blk.drew B2.out) (by simp)
  have O10x : Only [] w w10 := (by first | exact Only.trans O9.out o (by simp) | exact Only.trans (Only.drewN O9.out _) o (by simp) | exact Only.trans (Only.drew O9.out) o (by simp))
  obtain ⟨B0c0, B0c1, B0l⟩ := B0x.facts2
  obtain ⟨B1c0, B1c1, B1l⟩ := B1x.facts2
  obtain ⟨B2c0, B2c1, B2l⟩ := B2x.facts2
  clear B0 B1 B2 O9 o
  have B0 := Lib.hid B0x; have B1 := Lib.hid B1x; have B2 := Lib.hid B2x; have O10 := Lib.hid O10x
  clear B0x B1x B2x O10x
  go_wp2_with (fail)
  refine (addr a c ha hc H2.out _).mono ?_
  rintro e w11 ⟨rfl, o⟩
  have B3n : Blk (w10.alloc (.cells #[.int .i64 s.1, .int .i64 s.2] 23)) (w10.heap.size) 23 #[.int .i64 s.1, .int .i64 s.2] := (by have h := Blk.new w10 23 #[.int .i64 s.1, .int .i64 s.2]; simpa using h)
  have B0x := o.blk (t := 23) (cs := #[.int .i64 a.1, .int .i64 a.2]) (g := w.heap.size) (by first | exact (B0.out.alloc _) | exact Blk.drewN (B0.out.alloc _) _ | exact Blk.drew (B0.out.alloc _)) (by simp)
  have B1x := o.blk (t := 23) (cs := #[.int .i64 a.1, .int .i64 a.2]) (g := w.heap.size + 1) (by first | exact (B1.out.alloc _) | exact Blk.drewN (B1.out.alloc _) _ | exact Blk.drew (B1.out.alloc _)) (by simp)
  have B2x := o.blk (t := 23) (cs := #[.int .i64 c.1, .int .i64 c.2]) (g := w.heap.size + 2) (by first | exact (B2.out.alloc _) | exact Blk.drewN (B2.out.alloc _) _ | exact Blk.drew (B2.out.alloc _)) (by simp)
  have B3x := o.blk (t := 23) (cs := #[.int .i64 s.1, .int .i64 s.2]) (g := w10.heap.size) (by first | exact B3n | exact Blk.drewN B3n _ | exact Blk.drew B3n) (by simp)
  have O11x : Only [] w w11 := (by first | exact Only.trans (O10.out.alloc _) o (by simp) | exact Only.trans (Only.drewN (O10.out.alloc _) _) o (by simp) | exact Only.trans (Only.drew (O10.out.alloc _)) o (by simp))
  obtain ⟨B0c0, B0c1, B0l⟩ := B0x.facts2
  obtain ⟨B1c0, B1c1, B1l⟩ := B1x.facts2
  obtain ⟨B2c0, B2c1, B2l⟩ := B2x.facts2
  obtain ⟨B3c0, B3c1, B3l⟩ := B3x.facts2
  clear B0 B1 B2 B3n O10 o
  have B0 := Lib.hid B0x; have B1 := Lib.hid B1x; have B2 := Lib.hid B2x; have B3 := Lib.hid B3x; have O11 := Lib.hid O11x
  clear B0x B1x B2x B3x O11x
  go_wp2_with (fail)
  go_quiet (fail)
  go_wp2_with (fail)
  go_ret
  exact ⟨rfl, by first | exact (O11.out.alloc _) | exact Only.drewN (O11.out.alloc _) _ | exact Only.drew (O11.out.alloc _)⟩


set_option maxHeartbeats 2000000 in
theorem orders_zle_f (a c : Tm) (ha : a.ok) (hc : c.ok) (hx : cmpT a a = 0) (hy : cmpT a a = 0) (ra : a.right = true) (rb : a.right = true) (rc : Tm.right c = true) {y : Int} (h3 : cmpT a c = y) (hle : y ≤ 0) {z : Int} (h4 : cmpT a c = z) (hz : z ≤ 0) {s t : Tm} {e f : Int} (h1 : addT a c = (s, e)) (h2 : addT a c = (t, f)) (he : e = 0) (hf : f ≠ 0) (w : World) :
    Calls Tryd.prog 7 #[.agg #[.int .i64 a.1, .int .i64 a.2], .agg #[.int .i64 a.1, .int .i64 a.2], .agg #[.int .i64 c.1, .int .i64 c.2]] w fun r w' => r = .returned (.bool true) ∧ Only [] w w' := by
  have HX := Lib.hid hx
  have HY := Lib.hid hy
  clear hx hy
  have RA := Lib.hid ra
  have RB := Lib.hid rb
  have RC := Lib.hid rc
  clear ra rb rc
  have H3 := Lib.hid h3
  clear h3
  have H4 := Lib.hid h4
  clear h4
  have hle' : decide (y ≤ 0) = true := by simpa using hle
  have hz' : decide (0 < z) = false := by simp; omega
  clear hle hz
  have H1 := Lib.hid h1
  have H2 := Lib.hid h2
  clear h1 h2
  subst he
  have hf' : (f != 0) = true := by simpa using hf
  clear hf
  have O0 := Lib.hid (Only.refl [] w)
  go_enter Tryd.func7, Tryd.ntmps7
  go_wp2_with (fail)
  refine (cmpr a a ha ha HX.out _).mono ?_
  rintro e w1 ⟨rfl, o⟩
  have B0n : Blk (w.alloc (.cells #[.int .i64 a.1, .int .i64 a.2] 23)) (w.heap.size) 23 #[.int .i64 a.1, .int .i64 a.2] := (by have h := Blk.new w 23 #[.int .i64 a.1, .int .i64 a.2]; simpa using h)
  have B1n : Blk ((w.alloc (.cells #[.int .i64 a.1, .int .i64 a.2] 23)).alloc (.cells #[.int .i64 a.1, .int .i64 a.2] 23)) (w.heap.size + 1) 23 #[.int .i64 a.1, .int .i64 a.2] := (by have h := Blk.new (w.alloc (.cells #[.int .i64 a.1, .int .i64 a.2] 23)) 23 #[.int .i64 a.1, .int .i64 a.2]; simpa using h)
  have B2n : Blk (((w.alloc (.cells #[.int .i64 a.1, .int .i64 a.2] 23)).alloc (.cells #[.int .i64 a.1, .int .i64 a.2] 23)).alloc (.cells #[.int .i64 c.1, .int .i64 c.2] 23)) (w.heap.size + 2) 23 #[.int .i64 c.1, .int .i64 c.2] := (by have h := Blk.new ((w.alloc (.cells #[.int .i64 a.1, .int .i64 a.2] 23)).alloc (.cells #[.int .i64 a.1, .int .i64 a.2] 23)) 23 #[.int .i64 c.1, .int .i64 c.2]; simpa using h)
  have B0x := o.blk (t := 23) (cs := #[.int .i64 a.1, .int .i64 a.2]) (g := w.heap.size) (by first | exact ((B0n.alloc _).alloc _) | exact Blk.drewN ((B0n.alloc _).alloc _) _ | exact Blk.drew ((B0n.alloc _).alloc _)) (by simp)
  have B1x := o.blk (t := 23) (cs := #[.int .i64 a.1, .int .i64 a.2]) (g := w.heap.size + 1) (by first | exact (B1n.alloc _) | exact Blk.drewN (B1n.alloc _) _ | exact Blk.drew (B1n.alloc _)) (by simp)
  have B2x := o.blk (t := 23) (cs := #[.int .i64 c.1, .int .i64 c.2]) (g := w.heap.size + 2) (by first | exact B2n | exact Blk.drewN B2n _ | exact Blk.drew B2n) (by simp)
  have O1x : Only [] w w1 := (by first | exact Only.trans (((O0.out.alloc _).alloc _).alloc _) o (by simp) | exact Only.trans (Only.drewN (((O0.out.alloc _).alloc _).alloc _) _) o (by simp) | exact Only.trans (Only.drew (((O0.out.alloc _).alloc _).alloc _)) o (by simp))
  obtain ⟨B0c0, B0c1, B0l⟩ := B0x.facts2
  obtain ⟨B1c0, B1c1, B1l⟩ := B1x.facts2
  obtain ⟨B2c0, B2c1, B2l⟩ := B2x.facts2
  clear B0n B1n B2n O0 o
  have B0 := Lib.hid B0x; have B1 := Lib.hid B1x; have B2 := Lib.hid B2x; have O1 := Lib.hid O1x
  clear B0x B1x B2x O1x
  go_wp2_with (fail)
  refine (awake_any _).mono ?_
  rintro e w2 ⟨rfl, o⟩
  have B0x := o.blk (t := 23) (cs := #[.int .i64 a.1, .int .i64 a.2]) (g := w.heap.size) (by first | exact B0.out | exact Blk.drewN B0.out _ | exact Blk.drew B0.out) (by simp)
  have B1x := o.blk (t := 23) (cs := #[.int .i64 a.1, .int .i64 a.2]) (g := w.heap.size + 1) (by first | exact B1.out | exact Blk.drewN B1.out _ | exact Blk.drew B1.out) (by simp)
  have B2x := o.blk (t := 23) (cs := #[.int .i64 c.1, .int .i64 c.2]) (g := w.heap.size + 2) (by first | exact B2.out | exact Blk.drewN B2.out _ | exact Blk.drew B2.out) (by simp)
  have O2x : Only [] w w2 := (by first | exact Only.trans O1.out o (by simp) | exact Only.trans (Only.drewN O1.out _) o (by simp) | exact Only.trans (Only.drew O1.out) o (by simp))
  obtain ⟨B0c0, B0c1, B0l⟩ := B0x.facts2
  obtain ⟨B1c0, B1c1, B1l⟩ := B1x.facts2
  obtain ⟨B2c0, B2c1, B2l⟩ := B2x.facts2
  clear B0 B1 B2 O1 o
  have B0 := Lib.hid B0x; have B1 := Lib.hid B1x; have B2 := Lib.hid B2x; have O2 := Lib.hid O2x
  clear B0x B1x B2x O2x
  go_wp2_with (fail)
  refine (cmpr a a ha ha HY.out _).mono ?_
  rintro e w3 ⟨rfl, o⟩
  have B0x := o.blk (t := 23) (cs := #[.int .i64 a.1, .int .i64 a.2]) (g := w.heap.size) (by first | exact B0.out | exact Blk.drewN B0.out _ | exact Blk.drew B0.out) (by simp)
  have B1x := o.blk (t := 23) (cs := #[.int .i64 a.1, .int .i64 a.2]) (g := w.heap.size + 1) (by first | exact B1.out | exact Blk.drewN B1.out _ | exact Blk.drew B1.out) (by simp)
  have B2x := o.blk (t := 23) (cs := #[.int .i64 c.1, .int .i64 c.2]) (g := w.heap.size + 2) (by first | exact B2.out | exact Blk.drewN B2.out _ | exact Blk.drew B2.out) (by simp)
  have O3x : Only [] w w3 := (by first | exact Only.trans O2.out o (by simp) | exact Only.trans (Only.drewN O2.out _) o (by simp) | exact Only.trans (Only.drew O2.out) o (by simp))
  obtain ⟨B0c0, B0c1, B0l⟩ := B0x.facts2
  obtain ⟨B1c0, B1c1, B1l⟩ := B1x.facts2
  obtain ⟨B2c0, B2c1, B2l⟩ := B2x.facts2
  clear B0 B1 B2 O2 o
  have B0 := Lib.hid B0x; have B1 := Lib.hid B1x; have B2 := Lib.hid B2x; have O3 := Lib.hid O3x
  clear B0x B1x B2x O3x
  go_wp2_with (fail)
  refine (cmpr a a ha ha (cmp_self a) _).mono ?_
  rintro e w4 ⟨rfl, o⟩
  have B0x := o.blk (t := 23) (cs := #[.int .i64 a.1, .int .i64 a.2]) (g := w.heap.size) (by first | exact B0.out | exact Blk.drewN B0.out _ | exact Blk.drew B0.out) (by simp)
  have B1x := o.blk (t := 23) (cs := #[.int .i64 a.1, .int .i64 a.2]) (g := w.heap.size + 1) (by first | exact B1.out | exact Blk.drewN B1.out _ | exact Blk.drew B1.out) (by simp)
  have B2x := o.blk (t := 23) (cs := #[.int .i64 c.1, .int .i64 c.2]) (g := w.heap.size + 2) (by first | exact B2.out | exact Blk.drewN B2.out _ | exact Blk.drew B2.out) (by simp)
  have O4x : Only [] w w4 := (by first | exact Only.trans O3.out o (by simp) | exact Only.trans (Only.drewN O3.out _) o (by simp) | exact Only.trans (Only.drew O3.out) o (by simp))
  obtain ⟨B0c0, B0c1, B0l⟩ := B0x.facts2
  obtain ⟨B1c0, B1c1, B1l⟩ := B1x.facts2
  obtain ⟨B2c0, B2c1, B2l⟩ := B2x.facts2
  clear B0 B1 B2 O3 o
  have B0 := Lib.hid B0x; have B1 := Lib.hid B1x; have B2 := Lib.hid B2x; have O4 := Lib.hid O4x
  clear B0x B1x B2x O4x
  go_wp2_with (fail)
  refine (right_t ha.1 ha.2 RA.out _).mono ?_
  rintro e w5 ⟨rfl, o⟩
  have B0x := o.blk (t := 23) (cs := #[.int .i64 a.1, .int .i64 a.2]) (g := w.heap.size) (by first | exact B0.out | exact Blk.drewN B0.out _ | exact Blk.drew B0.out) (by simp)
  have B1x := o.blk (t := 23) (cs := #[.int .i64 a.1, .int .i64 a.2]) (g := w.heap.size + 1) (by first | exact B1.out | exact Blk.drewN B1.out _ | exact Blk.drew B1.out) (by simp)
  have B2x := o.blk (t := 23) (cs := #[.int .i64 c.1, .int .i64 c.2]) (g := w.heap.size + 2) (by first | exact B2.out | exact Blk.drewN B2.out _ | exact Blk.drew B2.out) (by simp)
  have O5x : Only [] w w5 := (by first | exact Only.trans O4.out o (by simp) | exact Only.trans (Only.drewN O4.out _) o (by simp) | exact Only.trans (Only.drew O4.out) o (by simp))
  obtain ⟨B0c0, B0c1, B0l⟩ := B0x.facts2
  obtain ⟨B1c0, B1c1, B1l⟩ := B1x.facts2
  obtain ⟨B2c0, B2c1, B2l⟩ := B2x.facts2
  clear B0 B1 B2 O4 o
  have B0 := Lib.hid B0x; have B1 := Lib.hid B1x; have B2 := Lib.hid B2x; have O5 := Lib.hid O5x
  clear B0x B1x B2x O5x
  go_wp2_with (fail)
  refine (right_t ha.1 ha.2 RB.out _).mono ?_
  rintro e w6 ⟨rfl, o⟩
  have B0x := o.blk (t := 23) (cs := #[.int .i64 a.1, .int .i64 a.2]) (g := w.heap.size) (by first | exact B0.out | exact Blk.drewN B0.out _ | exact Blk.drew B0.out) (by simp)
  have B1x := o.blk (t := 23) (cs := #[.int .i64 a.1, .int .i64 a.2]) (g := w.heap.size + 1) (by first | exact B1.out | exact Blk.drewN B1.out _ | exact Blk.drew B1.out) (by simp)
  have B2x := o.blk (t := 23) (cs := #[.int .i64 c.1, .int .i64 c.2]) (g := w.heap.size + 2) (by first | exact B2.out | exact Blk.drewN B2.out _ | exact Blk.drew B2.out) (by simp)
  have O6x : Only [] w w6 := (by first | exact Only.trans O5.out o (by simp) | exact Only.trans (Only.drewN O5.out _) o (by simp) | exact Only.trans (Only.drew O5.out) o (by simp))
  obtain ⟨B0c0, B0c1, B0l⟩ := B0x.facts2
  obtain ⟨B1c0, B1c1, B1l⟩ := B1x.facts2
  obtain ⟨B2c0, B2c1, B2l⟩ := B2x.facts2
  clear B0 B1 B2 O5 o
  have B0 := Lib.hid B0x; have B1 := Lib.hid B1x; have B2 := Lib.hid B2x; have O6 := Lib.hid O6x
  clear B0x B1x B2x O6x
  go_wp2_with (fail)
  refine (right_t hc.1 hc.2 RC.out _).mono ?_
  rintro e w7 ⟨rfl, o⟩
  have B0x := o.blk (t := 23) (cs := #[.int .i64 a.1, .int .i64 a.2]) (g := w.heap.size) (by first | exact B0.out | exact Blk.drewN B0.out _ | exact Blk.drew B0.out) (by simp)
  have B1x := o.blk (t := 23) (cs := #[.int .i64 a.1, .int .i64 a.2]) (g := w.heap.size + 1) (by first | exact B1.out | exact Blk.drewN B1.out _ | exact Blk.drew B1.out) (by simp)
  have B2x := o.blk (t := 23) (cs := #[.int .i64 c.1, .int .i64 c.2]) (g := w.heap.size + 2) (by first | exact B2.out | exact Blk.drewN B2.out _ | exact Blk.drew B2.out) (by simp)
  have O7x : Only [] w w7 := (by first | exact Only.trans O6.out o (by simp) | exact Only.trans (Only.drewN O6.out _) o (by simp) | exact Only.trans (Only.drew O6.out) o (by simp))
  obtain ⟨B0c0, B0c1, B0l⟩ := B0x.facts2
  obtain ⟨B1c0, B1c1, B1l⟩ := B1x.facts2
  obtain ⟨B2c0, B2c1, B2l⟩ := B2x.facts2
  clear B0 B1 B2 O6 o
  have B0 := Lib.hid B0x; have B1 := Lib.hid B1x; have B2 := Lib.hid B2x; have O7 := Lib.hid O7x
  clear B0x B1x B2x O7x
  go_wp2_with (fail)
  refine (cmpr a c ha hc H3.out _).mono ?_
  rintro e w8 ⟨rfl, o⟩
  have B0x := o.blk (t := 23) (cs := #[.int .i64 a.1, .int .i64 a.2]) (g := w.heap.size) (by first | exact B0.out | exact Blk.drewN B0.out _ | exact Blk.drew B0.out) (by simp)
  have B1x := o.blk (t := 23) (cs := #[.int .i64 a.1, .int .i64 a.2]) (g := w.heap.size + 1) (by first | exact B1.out | exact Blk.drewN B1.out _ | exact Blk.drew B1.out) (by simp)
  have B2x := o.blk (t := 23) (cs := #[.int .i64 c.1, .int .i64 c.2]) (g := w.heap.size + 2) (by first | exact B2.out | exact Blk.drewN B2.out _ | exact Blk.drew B2.out) (by simp)
  have O8x : Only [] w w8 := (by first | exact Only.trans O7.out o (by simp) | exact Only.trans (Only.drewN O7.out _) o (by simp) | exact Only.trans (Only.drew O7.out) o (by simp))
  obtain ⟨B0c0, B0c1, B0l⟩ := B0x.facts2
  obtain ⟨B1c0, B1c1, B1l⟩ := B1x.facts2
  obtain ⟨B2c0, B2c1, B2l⟩ := B2x.facts2
  clear B0 B1 B2 O7 o
  have B0 := Lib.hid B0x; have B1 := Lib.hid B1x; have B2 := Lib.hid B2x; have O8 := Lib.hid O8x
  clear B0x B1x B2x O8x
  go_wp2_with (fail)
  refine (cmpr a c ha hc H4.out _).mono ?_
  rintro e w9 ⟨rfl, o⟩
  have B0x := o.blk (t := 23) (cs := #[.int .i64 a.1, .int .i64 a.2]) (g := w.heap.size) (by first | exact B0.out | exact Blk.drewN B0.out _ | exact Blk.drew B0.out) (by simp)
  have B1x := o.blk (t := 23) (cs := #[.int .i64 a.1, .int .i64 a.2]) (g := w.heap.size + 1) (by first | exact B1.out | exact Blk.drewN B1.out _ | exact Blk.drew B1.out) (by simp)
  have B2x := o.blk (t := 23) (cs := #[.int .i64 c.1, .int .i64 c.2]) (g := w.heap.size + 2) (by first | exact B2.out | exact Blk.drewN B2.out _ | exact Blk.drew B2.out) (by simp)
  have O9x : Only [] w w9 := (by first | exact Only.trans O8.out o (by simp) | exact Only.trans (Only.drewN O8.out _) o (by simp) | exact Only.trans (Only.drew O8.out) o (by simp))
  obtain ⟨B0c0, B0c1, B0l⟩ := B0x.facts2
  obtain ⟨B1c0, B1c1, B1l⟩ := B1x.facts2
  obtain ⟨B2c0, B2c1, B2l⟩ := B2x.facts2
  clear B0 B1 B2 O8 o
  have B0 := Lib.hid B0x; have B1 := Lib.hid B1x; have B2 := Lib.hid B2x; have O9 := Lib.hid O9x
  clear B0x B1x B2x O9x
  go_wp2_with (fail)
  refine (addr a c ha hc H1.out _).mono ?_
  rintro e w10 ⟨rfl, o⟩
  have B0x := o.blk (t := 23) (cs := #[.int .i64 a.1, .int .i64 a.2]) (g := w.heap.size) (by first | exact B0.out | exact Blk.drewN B0.out _ | exact Blk.drew B0.out) (by simp)
  have B1x := o.blk (t := 23) (cs := #[.int .i64 a.1, .int .i64 a.2]) (g := w.heap.size + 1) (by first | exact B1.out | exact Blk.drewN B1.out _ | exact Blk.drew B1.out) (by simp)
  have B2x := o.blk (t := 23) (cs := #[.int .i64 c.1, .int .i64 c.2]) (g := w.heap.size + 2) (by first | exact B2.out | exact Blk.drewN B2.out _ | exact Blk.drew B2.out) (by simp)
  have O10x : Only [] w w10 := (by first | exact Only.trans O9.out o (by simp) | exact Only.trans (Only.drewN O9.out _) o (by simp) | exact Only.trans (Only.drew O9.out) o (by simp))
  obtain ⟨B0c0, B0c1, B0l⟩ := B0x.facts2
  obtain ⟨B1c0, B1c1, B1l⟩ := B1x.facts2
  obtain ⟨B2c0, B2c1, B2l⟩ := B2x.facts2
  clear B0 B1 B2 O9 o
  have B0 := Lib.hid B0x; have B1 := Lib.hid B1x; have B2 := Lib.hid B2x; have O10 := Lib.hid O10x
  clear B0x B1x B2x O10x
  go_wp2_with (fail)
  refine (addr a c ha hc H2.out _).mono ?_
  rintro e w11 ⟨rfl, o⟩
  have B3n : Blk (w10.alloc (.cells #[.int .i64 s.1, .int .i64 s.2] 23)) (w10.heap.size) 23 #[.int .i64 s.1, .int .i64 s.2] := (by have h := Blk.new w10 23 #[.int .i64 s.1, .int .i64 s.2]; simpa using h)
  have B0x := o.blk (t := 23) (cs := #[.int .i64 a.1, .int .i64 a.2]) (g := w.heap.size) (by first | exact (B0.out.alloc _) | exact Blk.drewN (B0.out.alloc _) _ | exact Blk.drew (B0.out.alloc _)) (by simp)
  have B1x := o.blk (t := 23) (cs := #[.int .i64 a.1, .int .i64 a.2]) (g := w.heap.size + 1) (by first | exact (B1.out.alloc _) | exact Blk.drewN (B1.out.alloc _) _ | exact Blk.drew (B1.out.alloc _)) (by simp)
  have B2x := o.blk (t := 23) (cs := #[.int .i64 c.1, .int .i64 c.2]) (g := w.heap.size + 2) (by first | exact (B2.out.alloc _) | exact Blk.drewN (B2.out.alloc _) _ | exact Blk.drew (B2.out.alloc _)) (by simp)
  have B3x := o.blk (t := 23) (cs := #[.int .i64 s.1, .int .i64 s.2]) (g := w10.heap.size) (by first | exact B3n | exact Blk.drewN B3n _ | exact Blk.drew B3n) (by simp)
  have O11x : Only [] w w11 := (by first | exact Only.trans (O10.out.alloc _) o (by simp) | exact Only.trans (Only.drewN (O10.out.alloc _) _) o (by simp) | exact Only.trans (Only.drew (O10.out.alloc _)) o (by simp))
  obtain ⟨B0c0, B0c1, B0l⟩ := B0x.facts2
  obtain ⟨B1c0, B1c1, B1l⟩ := B1x.facts2
  obtain ⟨B2c0, B2c1, B2l⟩ := B2x.facts2
  obtain ⟨B3c0, B3c1, B3l⟩ := B3x.facts2
  clear B0 B1 B2 B3n O10 o
  have B0 := Lib.hid B0x; have B1 := Lib.hid B1x; have B2 := Lib.hid B2x; have B3 := Lib.hid B3x; have O11 := Lib.hid O11x
  clear B0x B1x B2x B3x O11x
  go_wp2_with (fail)
  go_quiet (fail)
  go_wp2_with (fail)
  go_ret
  exact ⟨rfl, by first | exact (O11.out.alloc _) | exact Only.drewN (O11.out.alloc _) _ | exact Only.drew (O11.out.alloc _)⟩


set_option maxHeartbeats 2000000 in
theorem orders_zle_n (a : Tm) (ha : a.ok) (hx : cmpT a a = 0) (hy : cmpT a a = 0) (ra : a.right = true) (rb : a.right = true) (rc : Tm.right (1, 0) = true) {y : Int} (h3 : cmpT a (1, 0) = y) (hle : y ≤ 0) {z : Int} (h4 : cmpT a (1, 0) = z) (hz : z ≤ 0) {s t : Tm} {e f : Int} (h1 : addT a (1, 0) = (s, e)) (h2 : addT a (1, 0) = (t, f)) (he : e = 0) (hf : f = 0) (w : World) :
    Calls Tryd.prog 7 #[.agg #[.int .i64 a.1, .int .i64 a.2], .agg #[.int .i64 a.1, .int .i64 a.2], .agg #[.int .i64 1, .int .i64 0]] w fun r w' => r = .returned (.bool true) ∧ Only [] w w' := by
  have HX := Lib.hid hx
  have HY := Lib.hid hy
  clear hx hy
  have RA := Lib.hid ra
  have RB := Lib.hid rb
  have RC := Lib.hid rc
  clear ra rb rc
  have H3 := Lib.hid h3
  clear h3
  have H4 := Lib.hid h4
  clear h4
  have hle' : decide (y ≤ 0) = true := by simpa using hle
  have hz' : decide (0 < z) = false := by simp; omega
  clear hle hz
  have H1 := Lib.hid h1
  have H2 := Lib.hid h2
  clear h1 h2
  subst he hf
  have hEN := eq_never
  have O0 := Lib.hid (Only.refl [] w)
  go_enter Tryd.func7, Tryd.ntmps7
  go_wp2_with (fail)
  refine (cmpr a a ha ha HX.out _).mono ?_
  rintro e w1 ⟨rfl, o⟩
  have B0n : Blk (w.alloc (.cells #[.int .i64 a.1, .int .i64 a.2] 23)) (w.heap.size) 23 #[.int .i64 a.1, .int .i64 a.2] := (by have h := Blk.new w 23 #[.int .i64 a.1, .int .i64 a.2]; simpa using h)
  have B1n : Blk ((w.alloc (.cells #[.int .i64 a.1, .int .i64 a.2] 23)).alloc (.cells #[.int .i64 a.1, .int .i64 a.2] 23)) (w.heap.size + 1) 23 #[.int .i64 a.1, .int .i64 a.2] := (by have h := Blk.new (w.alloc (.cells #[.int .i64 a.1, .int .i64 a.2] 23)) 23 #[.int .i64 a.1, .int .i64 a.2]; simpa using h)
  have B2n : Blk (((w.alloc (.cells #[.int .i64 a.1, .int .i64 a.2] 23)).alloc (.cells #[.int .i64 a.1, .int .i64 a.2] 23)).alloc (.cells #[.int .i64 1, .int .i64 0] 23)) (w.heap.size + 2) 23 #[.int .i64 1, .int .i64 0] := (by have h := Blk.new ((w.alloc (.cells #[.int .i64 a.1, .int .i64 a.2] 23)).alloc (.cells #[.int .i64 a.1, .int .i64 a.2] 23)) 23 #[.int .i64 1, .int .i64 0]; simpa using h)
  have B0x := o.blk (t := 23) (cs := #[.int .i64 a.1, .int .i64 a.2]) (g := w.heap.size) (by first | exact ((B0n.alloc _).alloc _) | exact Blk.drewN ((B0n.alloc _).alloc _) _ | exact Blk.drew ((B0n.alloc _).alloc _)) (by simp)
  have B1x := o.blk (t := 23) (cs := #[.int .i64 a.1, .int .i64 a.2]) (g := w.heap.size + 1) (by first | exact (B1n.alloc _) | exact Blk.drewN (B1n.alloc _) _ | exact Blk.drew (B1n.alloc _)) (by simp)
  have B2x := o.blk (t := 23) (cs := #[.int .i64 1, .int .i64 0]) (g := w.heap.size + 2) (by first | exact B2n | exact Blk.drewN B2n _ | exact Blk.drew B2n) (by simp)
  have O1x : Only [] w w1 := (by first | exact Only.trans (((O0.out.alloc _).alloc _).alloc _) o (by simp) | exact Only.trans (Only.drewN (((O0.out.alloc _).alloc _).alloc _) _) o (by simp) | exact Only.trans (Only.drew (((O0.out.alloc _).alloc _).alloc _)) o (by simp))
  obtain ⟨B0c0, B0c1, B0l⟩ := B0x.facts2
  obtain ⟨B1c0, B1c1, B1l⟩ := B1x.facts2
  obtain ⟨B2c0, B2c1, B2l⟩ := B2x.facts2
  clear B0n B1n B2n O0 o
  have B0 := Lib.hid B0x; have B1 := Lib.hid B1x; have B2 := Lib.hid B2x; have O1 := Lib.hid O1x
  clear B0x B1x B2x O1x
  go_wp2_with (fail)
  refine (awake_any _).mono ?_
  rintro e w2 ⟨rfl, o⟩
  have B0x := o.blk (t := 23) (cs := #[.int .i64 a.1, .int .i64 a.2]) (g := w.heap.size) (by first | exact B0.out | exact Blk.drewN B0.out _ | exact Blk.drew B0.out) (by simp)
  have B1x := o.blk (t := 23) (cs := #[.int .i64 a.1, .int .i64 a.2]) (g := w.heap.size + 1) (by first | exact B1.out | exact Blk.drewN B1.out _ | exact Blk.drew B1.out) (by simp)
  have B2x := o.blk (t := 23) (cs := #[.int .i64 1, .int .i64 0]) (g := w.heap.size + 2) (by first | exact B2.out | exact Blk.drewN B2.out _ | exact Blk.drew B2.out) (by simp)
  have O2x : Only [] w w2 := (by first | exact Only.trans O1.out o (by simp) | exact Only.trans (Only.drewN O1.out _) o (by simp) | exact Only.trans (Only.drew O1.out) o (by simp))
  obtain ⟨B0c0, B0c1, B0l⟩ := B0x.facts2
  obtain ⟨B1c0, B1c1, B1l⟩ := B1x.facts2
  obtain ⟨B2c0, B2c1, B2l⟩ := B2x.facts2
  clear B0 B1 B2 O1 o
  have B0 := Lib.hid B0x; have B1 := Lib.hid B1x; have B2 := Lib.hid B2x; have O2 := Lib.hid O2x
  clear B0x B1x B2x O2x
  go_wp2_with (fail)
  refine (cmpr a a ha ha HY.out _).mono ?_
  rintro e w3 ⟨rfl, o⟩
  have B0x := o.blk (t := 23) (cs := #[.int .i64 a.1, .int .i64 a.2]) (g := w.heap.size) (by first | exact B0.out | exact Blk.drewN B0.out _ | exact Blk.drew B0.out) (by simp)
  have B1x := o.blk (t := 23) (cs := #[.int .i64 a.1, .int .i64 a.2]) (g := w.heap.size + 1) (by first | exact B1.out | exact Blk.drewN B1.out _ | exact Blk.drew B1.out) (by simp)
  have B2x := o.blk (t := 23) (cs := #[.int .i64 1, .int .i64 0]) (g := w.heap.size + 2) (by first | exact B2.out | exact Blk.drewN B2.out _ | exact Blk.drew B2.out) (by simp)
  have O3x : Only [] w w3 := (by first | exact Only.trans O2.out o (by simp) | exact Only.trans (Only.drewN O2.out _) o (by simp) | exact Only.trans (Only.drew O2.out) o (by simp))
  obtain ⟨B0c0, B0c1, B0l⟩ := B0x.facts2
  obtain ⟨B1c0, B1c1, B1l⟩ := B1x.facts2
  obtain ⟨B2c0, B2c1, B2l⟩ := B2x.facts2
  clear B0 B1 B2 O2 o
  have B0 := Lib.hid B0x; have B1 := Lib.hid B1x; have B2 := Lib.hid B2x; have O3 := Lib.hid O3x
  clear B0x B1x B2x O3x
  go_wp2_with (fail)
  refine (cmpr a a ha ha (cmp_self a) _).mono ?_
  rintro e w4 ⟨rfl, o⟩
  have B0x := o.blk (t := 23) (cs := #[.int .i64 a.1, .int .i64 a.2]) (g := w.heap.size) (by first | exact B0.out | exact Blk.drewN B0.out _ | exact Blk.drew B0.out) (by simp)
  have B1x := o.blk (t := 23) (cs := #[.int .i64 a.1, .int .i64 a.2]) (g := w.heap.size + 1) (by first | exact B1.out | exact Blk.drewN B1.out _ | exact Blk.drew B1.out) (by simp)
  have B2x := o.blk (t := 23) (cs := #[.int .i64 1, .int .i64 0]) (g := w.heap.size + 2) (by first | exact B2.out | exact Blk.drewN B2.out _ | exact Blk.drew B2.out) (by simp)
  have O4x : Only [] w w4 := (by first | exact Only.trans O3.out o (by simp) | exact Only.trans (Only.drewN O3.out _) o (by simp) | exact Only.trans (Only.drew O3.out) o (by simp))
  obtain ⟨B0c0, B0c1, B0l⟩ := B0x.facts2
  obtain ⟨B1c0, B1c1, B1l⟩ := B1x.facts2
  obtain ⟨B2c0, B2c1, B2l⟩ := B2x.facts2
  clear B0 B1 B2 O3 o
  have B0 := Lib.hid B0x; have B1 := Lib.hid B1x; have B2 := Lib.hid B2x; have O4 := Lib.hid O4x
  clear B0x B1x B2x O4x
  go_wp2_with (fail)
  refine (right_t ha.1 ha.2 RA.out _).mono ?_
  rintro e w5 ⟨rfl, o⟩
  have B0x := o.blk (t := 23) (cs := #[.int .i64 a.1, .int .i64 a.2]) (g := w.heap.size) (by first | exact B0.out | exact Blk.drewN B0.out _ | exact Blk.drew B0.out) (by simp)
  have B1x := o.blk (t := 23) (cs := #[.int .i64 a.1, .int .i64 a.2]) (g := w.heap.size + 1) (by first | exact B1.out | exact Blk.drewN B1.out _ | exact Blk.drew B1.out) (by simp)
  have B2x := o.blk (t := 23) (cs := #[.int .i64 1, .int .i64 0]) (g := w.heap.size + 2) (by first | exact B2.out | exact Blk.drewN B2.out _ | exact Blk.drew B2.out) (by simp)
  have O5x : Only [] w w5 := (by first | exact Only.trans O4.out o (by simp) | exact Only.trans (Only.drewN O4.out _) o (by simp) | exact Only.trans (Only.drew O4.out) o (by simp))
  obtain ⟨B0c0, B0c1, B0l⟩ := B0x.facts2
  obtain ⟨B1c0, B1c1, B1l⟩ := B1x.facts2
  obtain ⟨B2c0, B2c1, B2l⟩ := B2x.facts2
  clear B0 B1 B2 O4 o
  have B0 := Lib.hid B0x; have B1 := Lib.hid B1x; have B2 := Lib.hid B2x; have O5 := Lib.hid O5x
  clear B0x B1x B2x O5x
  go_wp2_with (fail)
  refine (right_t ha.1 ha.2 RB.out _).mono ?_
  rintro e w6 ⟨rfl, o⟩
  have B0x := o.blk (t := 23) (cs := #[.int .i64 a.1, .int .i64 a.2]) (g := w.heap.size) (by first | exact B0.out | exact Blk.drewN B0.out _ | exact Blk.drew B0.out) (by simp)
  have B1x := o.blk (t := 23) (cs := #[.int .i64 a.1, .int .i64 a.2]) (g := w.heap.size + 1) (by first | exact B1.out | exact Blk.drewN B1.out _ | exact Blk.drew B1.out) (by simp)
  have B2x := o.blk (t := 23) (cs := #[.int .i64 1, .int .i64 0]) (g := w.heap.size + 2) (by first | exact B2.out | exact Blk.drewN B2.out _ | exact Blk.drew B2.out) (by simp)
  have O6x : Only [] w w6 := (by first | exact Only.trans O5.out o (by simp) | exact Only.trans (Only.drewN O5.out _) o (by simp) | exact Only.trans (Only.drew O5.out) o (by simp))
  obtain ⟨B0c0, B0c1, B0l⟩ := B0x.facts2
  obtain ⟨B1c0, B1c1, B1l⟩ := B1x.facts2
  obtain ⟨B2c0, B2c1, B2l⟩ := B2x.facts2
  clear B0 B1 B2 O5 o
  have B0 := Lib.hid B0x; have B1 := Lib.hid B1x; have B2 := Lib.hid B2x; have O6 := Lib.hid O6x
  clear B0x B1x B2x O6x
  go_wp2_with (fail)
  refine (right_t ok_never.1 ok_never.2 RC.out _).mono ?_
  rintro e w7 ⟨rfl, o⟩
  have B0x := o.blk (t := 23) (cs := #[.int .i64 a.1, .int .i64 a.2]) (g := w.heap.size) (by first | exact B0.out | exact Blk.drewN B0.out _ | exact Blk.drew B0.out) (by simp)
  have B1x := o.blk (t := 23) (cs := #[.int .i64 a.1, .int .i64 a.2]) (g := w.heap.size + 1) (by first | exact B1.out | exact Blk.drewN B1.out _ | exact Blk.drew B1.out) (by simp)
  have B2x := o.blk (t := 23) (cs := #[.int .i64 1, .int .i64 0]) (g := w.heap.size + 2) (by first | exact B2.out | exact Blk.drewN B2.out _ | exact Blk.drew B2.out) (by simp)
  have O7x : Only [] w w7 := (by first | exact Only.trans O6.out o (by simp) | exact Only.trans (Only.drewN O6.out _) o (by simp) | exact Only.trans (Only.drew O6.out) o (by simp))
  obtain ⟨B0c0, B0c1, B0l⟩ := B0x.facts2
  obtain ⟨B1c0, B1c1, B1l⟩ := B1x.facts2
  obtain ⟨B2c0, B2c1, B2l⟩ := B2x.facts2
  clear B0 B1 B2 O6 o
  have B0 := Lib.hid B0x; have B1 := Lib.hid B1x; have B2 := Lib.hid B2x; have O7 := Lib.hid O7x
  clear B0x B1x B2x O7x
  go_wp2_with (fail)
  refine (cmpr a (1, 0) ha ok_never H3.out _).mono ?_
  rintro e w8 ⟨rfl, o⟩
  have B0x := o.blk (t := 23) (cs := #[.int .i64 a.1, .int .i64 a.2]) (g := w.heap.size) (by first | exact B0.out | exact Blk.drewN B0.out _ | exact Blk.drew B0.out) (by simp)
  have B1x := o.blk (t := 23) (cs := #[.int .i64 a.1, .int .i64 a.2]) (g := w.heap.size + 1) (by first | exact B1.out | exact Blk.drewN B1.out _ | exact Blk.drew B1.out) (by simp)
  have B2x := o.blk (t := 23) (cs := #[.int .i64 1, .int .i64 0]) (g := w.heap.size + 2) (by first | exact B2.out | exact Blk.drewN B2.out _ | exact Blk.drew B2.out) (by simp)
  have O8x : Only [] w w8 := (by first | exact Only.trans O7.out o (by simp) | exact Only.trans (Only.drewN O7.out _) o (by simp) | exact Only.trans (Only.drew O7.out) o (by simp))
  obtain ⟨B0c0, B0c1, B0l⟩ := B0x.facts2
  obtain ⟨B1c0, B1c1, B1l⟩ := B1x.facts2
  obtain ⟨B2c0, B2c1, B2l⟩ := B2x.facts2
  clear B0 B1 B2 O7 o
  have B0 := Lib.hid B0x; have B1 := Lib.hid B1x; have B2 := Lib.hid B2x; have O8 := Lib.hid O8x
  clear B0x B1x B2x O8x
  go_wp2_with (fail)
  refine (cmpr a (1, 0) ha ok_never H4.out _).mono ?_
  rintro e w9 ⟨rfl, o⟩
  have B0x := o.blk (t := 23) (cs := #[.int .i64 a.1, .int .i64 a.2]) (g := w.heap.size) (by first | exact B0.out | exact Blk.drewN B0.out _ | exact Blk.drew B0.out) (by simp)
  have B1x := o.blk (t := 23) (cs := #[.int .i64 a.1, .int .i64 a.2]) (g := w.heap.size + 1) (by first | exact B1.out | exact Blk.drewN B1.out _ | exact Blk.drew B1.out) (by simp)
  have B2x := o.blk (t := 23) (cs := #[.int .i64 1, .int .i64 0]) (g := w.heap.size + 2) (by first | exact B2.out | exact Blk.drewN B2.out _ | exact Blk.drew B2.out) (by simp)
  have O9x : Only [] w w9 := (by first | exact Only.trans O8.out o (by simp) | exact Only.trans (Only.drewN O8.out _) o (by simp) | exact Only.trans (Only.drew O8.out) o (by simp))
  obtain ⟨B0c0, B0c1, B0l⟩ := B0x.facts2
  obtain ⟨B1c0, B1c1, B1l⟩ := B1x.facts2
  obtain ⟨B2c0, B2c1, B2l⟩ := B2x.facts2
  clear B0 B1 B2 O8 o
  have B0 := Lib.hid B0x; have B1 := Lib.hid B1x; have B2 := Lib.hid B2x; have O9 := Lib.hid O9x
  clear B0x B1x B2x O9x
  go_wp2_with (fail)
  refine (addr a (1, 0) ha ok_never H1.out _).mono ?_
  rintro e w10 ⟨rfl, o⟩
  have B0x := o.blk (t := 23) (cs := #[.int .i64 a.1, .int .i64 a.2]) (g := w.heap.size) (by first | exact B0.out | exact Blk.drewN B0.out _ | exact Blk.drew B0.out) (by simp)
  have B1x := o.blk (t := 23) (cs := #[.int .i64 a.1, .int .i64 a.2]) (g := w.heap.size + 1) (by first | exact B1.out | exact Blk.drewN B1.out _ | exact Blk.drew B1.out) (by simp)
  have B2x := o.blk (t := 23) (cs := #[.int .i64 1, .int .i64 0]) (g := w.heap.size + 2) (by first | exact B2.out | exact Blk.drewN B2.out _ | exact Blk.drew B2.out) (by simp)
  have O10x : Only [] w w10 := (by first | exact Only.trans O9.out o (by simp) | exact Only.trans (Only.drewN O9.out _) o (by simp) | exact Only.trans (Only.drew O9.out) o (by simp))
  obtain ⟨B0c0, B0c1, B0l⟩ := B0x.facts2
  obtain ⟨B1c0, B1c1, B1l⟩ := B1x.facts2
  obtain ⟨B2c0, B2c1, B2l⟩ := B2x.facts2
  clear B0 B1 B2 O9 o
  have B0 := Lib.hid B0x; have B1 := Lib.hid B1x; have B2 := Lib.hid B2x; have O10 := Lib.hid O10x
  clear B0x B1x B2x O10x
  go_wp2_with (fail)
  refine (addr a (1, 0) ha ok_never H2.out _).mono ?_
  rintro e w11 ⟨rfl, o⟩
  have B3n : Blk (w10.alloc (.cells #[.int .i64 s.1, .int .i64 s.2] 23)) (w10.heap.size) 23 #[.int .i64 s.1, .int .i64 s.2] := (by have h := Blk.new w10 23 #[.int .i64 s.1, .int .i64 s.2]; simpa using h)
  have B0x := o.blk (t := 23) (cs := #[.int .i64 a.1, .int .i64 a.2]) (g := w.heap.size) (by first | exact (B0.out.alloc _) | exact Blk.drewN (B0.out.alloc _) _ | exact Blk.drew (B0.out.alloc _)) (by simp)
  have B1x := o.blk (t := 23) (cs := #[.int .i64 a.1, .int .i64 a.2]) (g := w.heap.size + 1) (by first | exact (B1.out.alloc _) | exact Blk.drewN (B1.out.alloc _) _ | exact Blk.drew (B1.out.alloc _)) (by simp)
  have B2x := o.blk (t := 23) (cs := #[.int .i64 1, .int .i64 0]) (g := w.heap.size + 2) (by first | exact (B2.out.alloc _) | exact Blk.drewN (B2.out.alloc _) _ | exact Blk.drew (B2.out.alloc _)) (by simp)
  have B3x := o.blk (t := 23) (cs := #[.int .i64 s.1, .int .i64 s.2]) (g := w10.heap.size) (by first | exact B3n | exact Blk.drewN B3n _ | exact Blk.drew B3n) (by simp)
  have O11x : Only [] w w11 := (by first | exact Only.trans (O10.out.alloc _) o (by simp) | exact Only.trans (Only.drewN (O10.out.alloc _) _) o (by simp) | exact Only.trans (Only.drew (O10.out.alloc _)) o (by simp))
  obtain ⟨B0c0, B0c1, B0l⟩ := B0x.facts2
  obtain ⟨B1c0, B1c1, B1l⟩ := B1x.facts2
  obtain ⟨B2c0, B2c1, B2l⟩ := B2x.facts2
  obtain ⟨B3c0, B3c1, B3l⟩ := B3x.facts2
  clear B0 B1 B2 B3n O10 o
  have B0 := Lib.hid B0x; have B1 := Lib.hid B1x; have B2 := Lib.hid B2x; have B3 := Lib.hid B3x; have O11 := Lib.hid O11x
  clear B0x B1x B2x B3x O11x
  go_wp2_with (fail)
  refine wp_region_held_drew (S := (fun w' => w'.cell? ⟨w.heap.size + 2, 0, none⟩ = some (.int .i64 1) ∧ w'.cell? ⟨w.heap.size + 2, 1, none⟩ = some (.int .i64 0))) (by kernel_rfl) ?_ (fun hHeld => ?_)
  · first | (go_keep; done) | (refine ⟨?_, ?_⟩ <;> (go_simp; done))
  refine wpAnyH_take (i := 0) (v := ?_) rfl (by kernel_rfl) (by kernel_rfl) (by kernel_rfl) (fun _ _ _ h => h) (Or.inl ⟨by kernel_rfl, ?_⟩) hHeld ?_
  rotate_left
  · (intro w hSw; (try dsimp only at hSw); go_simp; try with_reducible rfl)
  change wpAnyH _ _ _ _ _ _ _ (Act.put _ (some 78) _) _
  simp only [Act.put, List.setIfInBounds_toArray, List.set_cons_zero, List.set_cons_succ]
  refine wpAnyH_take (i := 1) (v := ?_) rfl (by kernel_rfl) (by kernel_rfl) (by kernel_rfl) (fun _ _ _ h => h) (Or.inl ⟨by kernel_rfl, ?_⟩) hHeld ?_
  rotate_left
  · (intro w hSw; (try dsimp only at hSw); go_simp; try with_reducible rfl)
  change wpAnyH _ _ _ _ _ _ _ (Act.put _ (some 79) _) _
  simp only [Act.put, List.setIfInBounds_toArray, List.set_cons_zero, List.set_cons_succ]
  refine wpAnyH_take (i := 2) (v := ?_) rfl (by kernel_rfl) (by kernel_rfl) (by kernel_rfl) (fun _ _ _ h => h) (Or.inl ⟨by kernel_rfl, ?_⟩) hHeld ?_
  rotate_left
  · (intro w hSw; (try dsimp only at hSw); go_simp; try with_reducible rfl)
  change wpAnyH _ _ _ _ _ _ _ (Act.put _ (some 80) _) _
  simp only [Act.put, List.setIfInBounds_toArray, List.set_cons_zero, List.set_cons_succ]
  refine wpAnyH_take (i := 3) (v := ?_) rfl (by kernel_rfl) (by kernel_rfl) (by kernel_rfl) (fun _ _ _ h => h) (Or.inl ⟨by kernel_rfl, ?_⟩) hHeld ?_
  rotate_left
  · (intro w hSw; (try dsimp only at hSw); go_simp; try with_reducible rfl)
  change wpAnyH _ _ _ _ _ _ _ (Act.put _ (some 81) _) _
  simp only [Act.put, List.setIfInBounds_toArray, List.set_cons_zero, List.set_cons_succ]
  refine wpAnyH_take (i := 4) (v := ?_) rfl (by kernel_rfl) (by kernel_rfl) (by kernel_rfl) (fun _ _ _ h => h) (Or.inl ⟨by kernel_rfl, ?_⟩) hHeld ?_
  rotate_left
  · (intro w hSw; (try dsimp only at hSw); go_simp; try with_reducible rfl)
  change wpAnyH _ _ _ _ _ _ _ (Act.put _ (some 82) _) _
  simp only [Act.put, List.setIfInBounds_toArray, List.set_cons_zero, List.set_cons_succ]
  refine wpAnyH_take (i := 5) (v := ?_) rfl (by kernel_rfl) (by kernel_rfl) (by kernel_rfl) (fun _ _ _ h => h) (Or.inl ⟨by kernel_rfl, ?_⟩) hHeld ?_
  rotate_left
  · (intro w hSw; (try dsimp only at hSw); go_simp; try with_reducible rfl)
  change wpAnyH _ _ _ _ _ _ _ (Act.put _ (some 83) _) _
  simp only [Act.put, List.setIfInBounds_toArray, List.set_cons_zero, List.set_cons_succ]
  refine wpAnyH_take (i := 6) (v := ?_) rfl (by kernel_rfl) (by kernel_rfl) (by kernel_rfl) (fun _ _ _ h => h) (Or.inl ⟨by kernel_rfl, ?_⟩) hHeld ?_
  rotate_left
  · (intro w hSw; (try dsimp only at hSw); go_simp; try with_reducible rfl)
  change wpAnyH _ _ _ _ _ _ _ (Act.put _ (some 84) _) _
  simp only [Act.put, List.setIfInBounds_toArray, List.set_cons_zero, List.set_cons_succ]
  refine wpAnyH_take (i := 7) (v := ?_) rfl (by kernel_rfl) (by kernel_rfl) (by kernel_rfl) (fun _ _ _ h => h) (Or.inl ⟨by kernel_rfl, ?_⟩) hHeld ?_
  rotate_left
  · (intro w hSw; (try dsimp only at hSw); go_simp; try with_reducible rfl)
  change wpAnyH _ _ _ _ _ _ _ (Act.put _ (some 85) _) _
  simp only [Act.put, List.setIfInBounds_toArray, List.set_cons_zero, List.set_cons_succ]
  refine wpAnyH_ready (rs := [8]) (by kernel_rfl) (by simp) ?_
  refine AllReadyH.cons rfl (fun K hK => ?_) AllReadyH.nil
  go_simp
  refine (never_any _).mono ?_
  rintro e w12 ⟨rfl, o⟩
  have B4n : Blk (w11.alloc (.cells #[.int .i64 t.1, .int .i64 t.2] 23)) (w11.heap.size) 23 #[.int .i64 t.1, .int .i64 t.2] := (by have h := Blk.new w11 23 #[.int .i64 t.1, .int .i64 t.2]; simpa using h)
  have B0x := o.blk (t := 23) (cs := #[.int .i64 a.1, .int .i64 a.2]) (g := w.heap.size) (by first | exact (B0.out.alloc _) | exact Blk.drewN (B0.out.alloc _) _ | exact Blk.drew (B0.out.alloc _)) (by simp)
  have B1x := o.blk (t := 23) (cs := #[.int .i64 a.1, .int .i64 a.2]) (g := w.heap.size + 1) (by first | exact (B1.out.alloc _) | exact Blk.drewN (B1.out.alloc _) _ | exact Blk.drew (B1.out.alloc _)) (by simp)
  have B2x := o.blk (t := 23) (cs := #[.int .i64 1, .int .i64 0]) (g := w.heap.size + 2) (by first | exact (B2.out.alloc _) | exact Blk.drewN (B2.out.alloc _) _ | exact Blk.drew (B2.out.alloc _)) (by simp)
  have B3x := o.blk (t := 23) (cs := #[.int .i64 s.1, .int .i64 s.2]) (g := w10.heap.size) (by first | exact (B3.out.alloc _) | exact Blk.drewN (B3.out.alloc _) _ | exact Blk.drew (B3.out.alloc _)) (by simp)
  have B4x := o.blk (t := 23) (cs := #[.int .i64 t.1, .int .i64 t.2]) (g := w11.heap.size) (by first | exact B4n | exact Blk.drewN B4n _ | exact Blk.drew B4n) (by simp)
  have O12x : Only [] w w12 := (by first | exact Only.trans (O11.out.alloc _) o (by simp) | exact Only.trans (Only.drewN (O11.out.alloc _) _) o (by simp) | exact Only.trans (Only.drew (O11.out.alloc _)) o (by simp))
  obtain ⟨B0c0, B0c1, B0l⟩ := B0x.facts2
  obtain ⟨B1c0, B1c1, B1l⟩ := B1x.facts2
  obtain ⟨B2c0, B2c1, B2l⟩ := B2x.facts2
  obtain ⟨B3c0, B3c1, B3l⟩ := B3x.facts2
  obtain ⟨B4c0, B4c1, B4l⟩ := B4x.facts2
  clear B0 B1 B2 B3 B4n O11 o
  have B0 := Lib.hid B0x; have B1 := Lib.hid B1x; have B2 := Lib.hid B2x; have B3 := Lib.hid B3x; have B4 := Lib.hid B4x; have O12 := Lib.hid O12x
  clear B0x B1x B2x B3x B4x O12x
  refine hK.out _ _ ?_ (fun hHeld2 => ?_)
  · first | (go_keep; done) | (refine ⟨?_, ?_⟩ <;> (go_simp; done))
  clear hK K hHeld
  have hHeld := hHeld2; clear hHeld2
  try simp only [Act.put, List.setIfInBounds_toArray, List.set_cons_zero, List.set_cons_succ]
  refine wpAnyH_take (i := 9) (v := ?_) rfl (by kernel_rfl) (by kernel_rfl) (by kernel_rfl) (fun _ _ _ h => h) (Or.inl ⟨by kernel_rfl, ?_⟩) hHeld ?_
  rotate_left
  · (intro w hSw; (try dsimp only at hSw); go_simp; try with_reducible rfl)
  change wpAnyH _ _ _ _ _ _ _ (Act.put _ (some 87) _) _
  simp only [Act.put, List.setIfInBounds_toArray, List.set_cons_zero, List.set_cons_succ]
  refine wpAnyH_take (i := 10) (v := ?_) rfl (by kernel_rfl) (by kernel_rfl) (by kernel_rfl) (fun _ _ _ h => h) (Or.inl ⟨by kernel_rfl, ?_⟩) hHeld ?_
  rotate_left
  · (intro w hSw; (try dsimp only at hSw); go_simp; try with_reducible rfl)
  change wpAnyH _ _ _ _ _ _ _ (Act.put _ (some 88) _) _
  simp only [Act.put, List.setIfInBounds_toArray, List.set_cons_zero, List.set_cons_succ]
  refine wpAnyH_take (i := 11) (v := ?_) rfl (by kernel_rfl) (by kernel_rfl) (by kernel_rfl) (fun _ _ _ h => h) (Or.inl ⟨by kernel_rfl, ?_⟩) hHeld ?_
  rotate_left
  · (intro w hSw; (try dsimp only at hSw); go_simp; try with_reducible rfl)
  change wpAnyH _ _ _ _ _ _ _ (Act.put _ (some 89) _) _
  simp only [Act.put, List.setIfInBounds_toArray, List.set_cons_zero, List.set_cons_succ]
  refine wpAnyH_take (i := 12) (v := undef) rfl (by kernel_rfl) (by kernel_rfl) (by kernel_rfl) (fun _ _ _ h => h) (Or.inr ⟨by kernel_rfl, rfl⟩) hHeld ?_
  change wpAnyH _ _ _ _ _ _ _ (Act.put _ (some 90) _) _
  simp only [Act.put, List.setIfInBounds_toArray, List.set_cons_zero, List.set_cons_succ]
  refine wpAnyH_take (i := 13) (v := undef) rfl (by kernel_rfl) (by kernel_rfl) (by kernel_rfl) (fun _ _ _ h => h) (Or.inr ⟨by kernel_rfl, rfl⟩) hHeld ?_
  change wpAnyH _ _ _ _ _ _ _ (Act.put _ (some 91) _) _
  simp only [Act.put, List.setIfInBounds_toArray, List.set_cons_zero, List.set_cons_succ]
  refine wpAnyH_take (i := 14) (v := undef) rfl (by kernel_rfl) (by kernel_rfl) (by kernel_rfl) (fun _ _ _ h => h) (Or.inr ⟨by kernel_rfl, rfl⟩) hHeld ?_
  change wpAnyH _ _ _ _ _ _ _ (Act.put _ (some 92) _) _
  simp only [Act.put, List.setIfInBounds_toArray, List.set_cons_zero, List.set_cons_succ]
  refine wpAnyH_take (i := 15) (v := undef) rfl (by kernel_rfl) (by kernel_rfl) (by kernel_rfl) (fun _ _ _ h => h) (Or.inr ⟨by kernel_rfl, rfl⟩) hHeld ?_
  change wpAnyH _ _ _ _ _ _ _ (Act.put _ (some 93) _) _
  simp only [Act.put, List.setIfInBounds_toArray, List.set_cons_zero, List.set_cons_succ]
  refine wpAnyH_take (i := 16) (v := undef) rfl (by kernel_rfl) (by kernel_rfl) (by kernel_rfl) (fun _ _ _ h => h) (Or.inr ⟨by kernel_rfl, rfl⟩) hHeld ?_
  change wpAnyH _ _ _ _ _ _ _ (Act.put _ (some 94) _) _
  simp only [Act.put, List.setIfInBounds_toArray, List.set_cons_zero, List.set_cons_succ]
  refine wpAnyH_take (i := 17) (v := ?_) rfl (by kernel_rfl) (by kernel_rfl) (by kernel_rfl) (fun _ _ _ h => h) (Or.inl ⟨by kernel_rfl, ?_⟩) hHeld ?_
  rotate_left
  · (intro w hSw; (try dsimp only at hSw); go_simp; try with_reducible rfl)
  change wpAnyH _ _ _ _ _ _ _ (Act.put _ (some 95) _) _
  simp only [Act.put, List.setIfInBounds_toArray, List.set_cons_zero, List.set_cons_succ]
  refine wpAnyH_take (i := 18) (v := ?_) rfl (by kernel_rfl) (by kernel_rfl) (by kernel_rfl) (fun _ _ _ h => h) (Or.inl ⟨by kernel_rfl, ?_⟩) hHeld ?_
  rotate_left
  · (intro w hSw; (try dsimp only at hSw); go_simp; try with_reducible rfl)
  change wpAnyH _ _ _ _ _ _ _ (Act.put _ (some 6) _) _
  simp only [Act.put, List.setIfInBounds_toArray, List.set_cons_zero, List.set_cons_succ]
  refine wpAnyH_done (by kernel_rfl) ?_ _
  go_wp2_with (fail)
  go_ret
  exact ⟨rfl, by first | exact O12.out | exact Only.drewN O12.out _ | exact Only.drew O12.out⟩


set_option maxHeartbeats 2000000 in
theorem orders_zle_c (a c : Tm) (ha : a.ok) (hc : c.ok) (hx : cmpT a a = 0) (hy : cmpT a a = 0) (ra : a.right = true) (rb : a.right = true) (rc : Tm.right c = true) {y : Int} (h3 : cmpT a c = y) (hle : y ≤ 0) {z : Int} (h4 : cmpT a c = z) (hz : z ≤ 0) {s t : Tm} {e f : Int} (h1 : addT a c = (s, e)) (h2 : addT a c = (t, f)) (he : e = 0) (hf : f = 0) (hs : s.ok) (ht : t.ok) (hc2 : c.2 ≠ 0) (h5 : cmpT s t = 0) (w : World) :
    Calls Tryd.prog 7 #[.agg #[.int .i64 a.1, .int .i64 a.2], .agg #[.int .i64 a.1, .int .i64 a.2], .agg #[.int .i64 c.1, .int .i64 c.2]] w fun r w' => r = .returned (.bool true) ∧ Only [] w w' := by
  have HX := Lib.hid hx
  have HY := Lib.hid hy
  clear hx hy
  have RA := Lib.hid ra
  have RB := Lib.hid rb
  have RC := Lib.hid rc
  clear ra rb rc
  have H3 := Lib.hid h3
  clear h3
  have H4 := Lib.hid h4
  clear h4
  have hle' : decide (y ≤ 0) = true := by simpa using hle
  have hz' : decide (0 < z) = false := by simp; omega
  clear hle hz
  have H1 := Lib.hid h1
  have H2 := Lib.hid h2
  clear h1 h2
  subst he hf
  have hEN := eq_timesF (a := c) (b := (1, 0)) (fun e => hc2 (by rw [e]))
  have H5 := Lib.hid h5
  clear hc2 h5
  have O0 := Lib.hid (Only.refl [] w)
  go_enter Tryd.func7, Tryd.ntmps7
  go_wp2_with (fail)
  refine (cmpr a a ha ha HX.out _).mono ?_
  rintro e w1 ⟨rfl, o⟩
  have B0n : Blk (w.alloc (.cells #[.int .i64 a.1, .int .i64 a.2] 23)) (w.heap.size) 23 #[.int .i64 a.1, .int .i64 a.2] := (by have h := Blk.new w 23 #[.int .i64 a.1, .int .i64 a.2]; simpa using h)
  have B1n : Blk ((w.alloc (.cells #[.int .i64 a.1, .int .i64 a.2] 23)).alloc (.cells #[.int .i64 a.1, .int .i64 a.2] 23)) (w.heap.size + 1) 23 #[.int .i64 a.1, .int .i64 a.2] := (by have h := Blk.new (w.alloc (.cells #[.int .i64 a.1, .int .i64 a.2] 23)) 23 #[.int .i64 a.1, .int .i64 a.2]; simpa using h)
  have B2n : Blk (((w.alloc (.cells #[.int .i64 a.1, .int .i64 a.2] 23)).alloc (.cells #[.int .i64 a.1, .int .i64 a.2] 23)).alloc (.cells #[.int .i64 c.1, .int .i64 c.2] 23)) (w.heap.size + 2) 23 #[.int .i64 c.1, .int .i64 c.2] := (by have h := Blk.new ((w.alloc (.cells #[.int .i64 a.1, .int .i64 a.2] 23)).alloc (.cells #[.int .i64 a.1, .int .i64 a.2] 23)) 23 #[.int .i64 c.1, .int .i64 c.2]; simpa using h)
  have B0x := o.blk (t := 23) (cs := #[.int .i64 a.1, .int .i64 a.2]) (g := w.heap.size) (by first | exact ((B0n.alloc _).alloc _) | exact Blk.drewN ((B0n.alloc _).alloc _) _ | exact Blk.drew ((B0n.alloc _).alloc _)) (by simp)
  have B1x := o.blk (t := 23) (cs := #[.int .i64 a.1, .int .i64 a.2]) (g := w.heap.size + 1) (by first | exact (B1n.alloc _) | exact Blk.drewN (B1n.alloc _) _ | exact Blk.drew (B1n.alloc _)) (by simp)
  have B2x := o.blk (t := 23) (cs := #[.int .i64 c.1, .int .i64 c.2]) (g := w.heap.size + 2) (by first | exact B2n | exact Blk.drewN B2n _ | exact Blk.drew B2n) (by simp)
  have O1x : Only [] w w1 := (by first | exact Only.trans (((O0.out.alloc _).alloc _).alloc _) o (by simp) | exact Only.trans (Only.drewN (((O0.out.alloc _).alloc _).alloc _) _) o (by simp) | exact Only.trans (Only.drew (((O0.out.alloc _).alloc _).alloc _)) o (by simp))
  obtain ⟨B0c0, B0c1, B0l⟩ := B0x.facts2
  obtain ⟨B1c0, B1c1, B1l⟩ := B1x.facts2
  obtain ⟨B2c0, B2c1, B2l⟩ := B2x.facts2
  clear B0n B1n B2n O0 o
  have B0 := Lib.hid B0x; have B1 := Lib.hid B1x; have B2 := Lib.hid B2x; have O1 := Lib.hid O1x
  clear B0x B1x B2x O1x
  go_wp2_with (fail)
  refine (awake_any _).mono ?_
  rintro e w2 ⟨rfl, o⟩
  have B0x := o.blk (t := 23) (cs := #[.int .i64 a.1, .int .i64 a.2]) (g := w.heap.size) (by first | exact B0.out | exact Blk.drewN B0.out _ | exact Blk.drew B0.out) (by simp)
  have B1x := o.blk (t := 23) (cs := #[.int .i64 a.1, .int .i64 a.2]) (g := w.heap.size + 1) (by first | exact B1.out | exact Blk.drewN B1.out _ | exact Blk.drew B1.out) (by simp)
  have B2x := o.blk (t := 23) (cs := #[.int .i64 c.1, .int .i64 c.2]) (g := w.heap.size + 2) (by first | exact B2.out | exact Blk.drewN B2.out _ | exact Blk.drew B2.out) (by simp)
  have O2x : Only [] w w2 := (by first | exact Only.trans O1.out o (by simp) | exact Only.trans (Only.drewN O1.out _) o (by simp) | exact Only.trans (Only.drew O1.out) o (by simp))
  obtain ⟨B0c0, B0c1, B0l⟩ := B0x.facts2
  obtain ⟨B1c0, B1c1, B1l⟩ := B1x.facts2
  obtain ⟨B2c0, B2c1, B2l⟩ := B2x.facts2
  clear B0 B1 B2 O1 o
  have B0 := Lib.hid B0x; have B1 := Lib.hid B1x; have B2 := Lib.hid B2x; have O2 := Lib.hid O2x
  clear B0x B1x B2x O2x
  go_wp2_with (fail)
  refine (cmpr a a ha ha HY.out _).mono ?_
  rintro e w3 ⟨rfl, o⟩
  have B0x := o.blk (t := 23) (cs := #[.int .i64 a.1, .int .i64 a.2]) (g := w.heap.size) (by first | exact B0.out | exact Blk.drewN B0.out _ | exact Blk.drew B0.out) (by simp)
  have B1x := o.blk (t := 23) (cs := #[.int .i64 a.1, .int .i64 a.2]) (g := w.heap.size + 1) (by first | exact B1.out | exact Blk.drewN B1.out _ | exact Blk.drew B1.out) (by simp)
  have B2x := o.blk (t := 23) (cs := #[.int .i64 c.1, .int .i64 c.2]) (g := w.heap.size + 2) (by first | exact B2.out | exact Blk.drewN B2.out _ | exact Blk.drew B2.out) (by simp)
  have O3x : Only [] w w3 := (by first | exact Only.trans O2.out o (by simp) | exact Only.trans (Only.drewN O2.out _) o (by simp) | exact Only.trans (Only.drew O2.out) o (by simp))
  obtain ⟨B0c0, B0c1, B0l⟩ := B0x.facts2
  obtain ⟨B1c0, B1c1, B1l⟩ := B1x.facts2
  obtain ⟨B2c0, B2c1, B2l⟩ := B2x.facts2
  clear B0 B1 B2 O2 o
  have B0 := Lib.hid B0x; have B1 := Lib.hid B1x; have B2 := Lib.hid B2x; have O3 := Lib.hid O3x
  clear B0x B1x B2x O3x
  go_wp2_with (fail)
  refine (cmpr a a ha ha (cmp_self a) _).mono ?_
  rintro e w4 ⟨rfl, o⟩
  have B0x := o.blk (t := 23) (cs := #[.int .i64 a.1, .int .i64 a.2]) (g := w.heap.size) (by first | exact B0.out | exact Blk.drewN B0.out _ | exact Blk.drew B0.out) (by simp)
  have B1x := o.blk (t := 23) (cs := #[.int .i64 a.1, .int .i64 a.2]) (g := w.heap.size + 1) (by first | exact B1.out | exact Blk.drewN B1.out _ | exact Blk.drew B1.out) (by simp)
  have B2x := o.blk (t := 23) (cs := #[.int .i64 c.1, .int .i64 c.2]) (g := w.heap.size + 2) (by first | exact B2.out | exact Blk.drewN B2.out _ | exact Blk.drew B2.out) (by simp)
  have O4x : Only [] w w4 := (by first | exact Only.trans O3.out o (by simp) | exact Only.trans (Only.drewN O3.out _) o (by simp) | exact Only.trans (Only.drew O3.out) o (by simp))
  obtain ⟨B0c0, B0c1, B0l⟩ := B0x.facts2
  obtain ⟨B1c0, B1c1, B1l⟩ := B1x.facts2
  obtain ⟨B2c0, B2c1, B2l⟩ := B2x.facts2
  clear B0 B1 B2 O3 o
  have B0 := Lib.hid B0x; have B1 := Lib.hid B1x; have B2 := Lib.hid B2x; have O4 := Lib.hid O4x
  clear B0x B1x B2x O4x
  go_wp2_with (fail)
  refine (right_t ha.1 ha.2 RA.out _).mono ?_
  rintro e w5 ⟨rfl, o⟩
  have B0x := o.blk (t := 23) (cs := #[.int .i64 a.1, .int .i64 a.2]) (g := w.heap.size) (by first | exact B0.out | exact Blk.drewN B0.out _ | exact Blk.drew B0.out) (by simp)
  have B1x := o.blk (t := 23) (cs := #[.int .i64 a.1, .int .i64 a.2]) (g := w.heap.size + 1) (by first | exact B1.out | exact Blk.drewN B1.out _ | exact Blk.drew B1.out) (by simp)
  have B2x := o.blk (t := 23) (cs := #[.int .i64 c.1, .int .i64 c.2]) (g := w.heap.size + 2) (by first | exact B2.out | exact Blk.drewN B2.out _ | exact Blk.drew B2.out) (by simp)
  have O5x : Only [] w w5 := (by first | exact Only.trans O4.out o (by simp) | exact Only.trans (Only.drewN O4.out _) o (by simp) | exact Only.trans (Only.drew O4.out) o (by simp))
  obtain ⟨B0c0, B0c1, B0l⟩ := B0x.facts2
  obtain ⟨B1c0, B1c1, B1l⟩ := B1x.facts2
  obtain ⟨B2c0, B2c1, B2l⟩ := B2x.facts2
  clear B0 B1 B2 O4 o
  have B0 := Lib.hid B0x; have B1 := Lib.hid B1x; have B2 := Lib.hid B2x; have O5 := Lib.hid O5x
  clear B0x B1x B2x O5x
  go_wp2_with (fail)
  refine (right_t ha.1 ha.2 RB.out _).mono ?_
  rintro e w6 ⟨rfl, o⟩
  have B0x := o.blk (t := 23) (cs := #[.int .i64 a.1, .int .i64 a.2]) (g := w.heap.size) (by first | exact B0.out | exact Blk.drewN B0.out _ | exact Blk.drew B0.out) (by simp)
  have B1x := o.blk (t := 23) (cs := #[.int .i64 a.1, .int .i64 a.2]) (g := w.heap.size + 1) (by first | exact B1.out | exact Blk.drewN B1.out _ | exact Blk.drew B1.out) (by simp)
  have B2x := o.blk (t := 23) (cs := #[.int .i64 c.1, .int .i64 c.2]) (g := w.heap.size + 2) (by first | exact B2.out | exact Blk.drewN B2.out _ | exact Blk.drew B2.out) (by simp)
  have O6x : Only [] w w6 := (by first | exact Only.trans O5.out o (by simp) | exact Only.trans (Only.drewN O5.out _) o (by simp) | exact Only.trans (Only.drew O5.out) o (by simp))
  obtain ⟨B0c0, B0c1, B0l⟩ := B0x.facts2
  obtain ⟨B1c0, B1c1, B1l⟩ := B1x.facts2
  obtain ⟨B2c0, B2c1, B2l⟩ := B2x.facts2
  clear B0 B1 B2 O5 o
  have B0 := Lib.hid B0x; have B1 := Lib.hid B1x; have B2 := Lib.hid B2x; have O6 := Lib.hid O6x
  clear B0x B1x B2x O6x
  go_wp2_with (fail)
  refine (right_t hc.1 hc.2 RC.out _).mono ?_
  rintro e w7 ⟨rfl, o⟩
  have B0x := o.blk (t := 23) (cs := #[.int .i64 a.1, .int .i64 a.2]) (g := w.heap.size) (by first | exact B0.out | exact Blk.drewN B0.out _ | exact Blk.drew B0.out) (by simp)
  have B1x := o.blk (t := 23) (cs := #[.int .i64 a.1, .int .i64 a.2]) (g := w.heap.size + 1) (by first | exact B1.out | exact Blk.drewN B1.out _ | exact Blk.drew B1.out) (by simp)
  have B2x := o.blk (t := 23) (cs := #[.int .i64 c.1, .int .i64 c.2]) (g := w.heap.size + 2) (by first | exact B2.out | exact Blk.drewN B2.out _ | exact Blk.drew B2.out) (by simp)
  have O7x : Only [] w w7 := (by first | exact Only.trans O6.out o (by simp) | exact Only.trans (Only.drewN O6.out _) o (by simp) | exact Only.trans (Only.drew O6.out) o (by simp))
  obtain ⟨B0c0, B0c1, B0l⟩ := B0x.facts2
  obtain ⟨B1c0, B1c1, B1l⟩ := B1x.facts2
  obtain ⟨B2c0, B2c1, B2l⟩ := B2x.facts2
  clear B0 B1 B2 O6 o
  have B0 := Lib.hid B0x; have B1 := Lib.hid B1x; have B2 := Lib.hid B2x; have O7 := Lib.hid O7x
  clear B0x B1x B2x O7x
  go_wp2_with (fail)
  refine (cmpr a c ha hc H3.out _).mono ?_
  rintro e w8 ⟨rfl, o⟩
  have B0x := o.blk (t := 23) (cs := #[.int .i64 a.1, .int .i64 a.2]) (g := w.heap.size) (by first | exact B0.out | exact Blk.drewN B0.out _ | exact Blk.drew B0.out) (by simp)
  have B1x := o.blk (t := 23) (cs := #[.int .i64 a.1, .int .i64 a.2]) (g := w.heap.size + 1) (by first | exact B1.out | exact Blk.drewN B1.out _ | exact Blk.drew B1.out) (by simp)
  have B2x := o.blk (t := 23) (cs := #[.int .i64 c.1, .int .i64 c.2]) (g := w.heap.size + 2) (by first | exact B2.out | exact Blk.drewN B2.out _ | exact Blk.drew B2.out) (by simp)
  have O8x : Only [] w w8 := (by first | exact Only.trans O7.out o (by simp) | exact Only.trans (Only.drewN O7.out _) o (by simp) | exact Only.trans (Only.drew O7.out) o (by simp))
  obtain ⟨B0c0, B0c1, B0l⟩ := B0x.facts2
  obtain ⟨B1c0, B1c1, B1l⟩ := B1x.facts2
  obtain ⟨B2c0, B2c1, B2l⟩ := B2x.facts2
  clear B0 B1 B2 O7 o
  have B0 := Lib.hid B0x; have B1 := Lib.hid B1x; have B2 := Lib.hid B2x; have O8 := Lib.hid O8x
  clear B0x B1x B2x O8x
  go_wp2_with (fail)
  refine (cmpr a c ha hc H4.out _).mono ?_
  rintro e w9 ⟨rfl, o⟩
  have B0x := o.blk (t := 23) (cs := #[.int .i64 a.1, .int .i64 a.2]) (g := w.heap.size) (by first | exact B0.out | exact Blk.drewN B0.out _ | exact Blk.drew B0.out) (by simp)
  have B1x := o.blk (t := 23) (cs := #[.int .i64 a.1, .int .i64 a.2]) (g := w.heap.size + 1) (by first | exact B1.out | exact Blk.drewN B1.out _ | exact Blk.drew B1.out) (by simp)
  have B2x := o.blk (t := 23) (cs := #[.int .i64 c.1, .int .i64 c.2]) (g := w.heap.size + 2) (by first | exact B2.out | exact Blk.drewN B2.out _ | exact Blk.drew B2.out) (by simp)
  have O9x : Only [] w w9 := (by first | exact Only.trans O8.out o (by simp) | exact Only.trans (Only.drewN O8.out _) o (by simp) | exact Only.trans (Only.drew O8.out) o (by simp))
  obtain ⟨B0c0, B0c1, B0l⟩ := B0x.facts2
  obtain ⟨B1c0, B1c1, B1l⟩ := B1x.facts2
  obtain ⟨B2c0, B2c1, B2l⟩ := B2x.facts2
  clear B0 B1 B2 O8 o
  have B0 := Lib.hid B0x; have B1 := Lib.hid B1x; have B2 := Lib.hid B2x; have O9 := Lib.hid O9x
  clear B0x B1x B2x O9x
  go_wp2_with (fail)
  refine (addr a c ha hc H1.out _).mono ?_
  rintro e w10 ⟨rfl, o⟩
  have B0x := o.blk (t := 23) (cs := #[.int .i64 a.1, .int .i64 a.2]) (g := w.heap.size) (by first | exact B0.out | exact Blk.drewN B0.out _ | exact Blk.drew B0.out) (by simp)
  have B1x := o.blk (t := 23) (cs := #[.int .i64 a.1, .int .i64 a.2]) (g := w.heap.size + 1) (by first | exact B1.out | exact Blk.drewN B1.out _ | exact Blk.drew B1.out) (by simp)
  have B2x := o.blk (t := 23) (cs := #[.int .i64 c.1, .int .i64 c.2]) (g := w.heap.size + 2) (by first | exact B2.out | exact Blk.drewN B2.out _ | exact Blk.drew B2.out) (by simp)
  have O10x : Only [] w w10 := (by first | exact Only.trans O9.out o (by simp) | exact Only.trans (Only.drewN O9.out _) o (by simp) | exact Only.trans (Only.drew O9.out) o (by simp))
  obtain ⟨B0c0, B0c1, B0l⟩ := B0x.facts2
  obtain ⟨B1c0, B1c1, B1l⟩ := B1x.facts2
  obtain ⟨B2c0, B2c1, B2l⟩ := B2x.facts2
  clear B0 B1 B2 O9 o
  have B0 := Lib.hid B0x; have B1 := Lib.hid B1x; have B2 := Lib.hid B2x; have O10 := Lib.hid O10x
  clear B0x B1x B2x O10x
  go_wp2_with (fail)
  refine (addr a c ha hc H2.out _).mono ?_
  rintro e w11 ⟨rfl, o⟩
  have B3n : Blk (w10.alloc (.cells #[.int .i64 s.1, .int .i64 s.2] 23)) (w10.heap.size) 23 #[.int .i64 s.1, .int .i64 s.2] := (by have h := Blk.new w10 23 #[.int .i64 s.1, .int .i64 s.2]; simpa using h)
  have B0x := o.blk (t := 23) (cs := #[.int .i64 a.1, .int .i64 a.2]) (g := w.heap.size) (by first | exact (B0.out.alloc _) | exact Blk.drewN (B0.out.alloc _) _ | exact Blk.drew (B0.out.alloc _)) (by simp)
  have B1x := o.blk (t := 23) (cs := #[.int .i64 a.1, .int .i64 a.2]) (g := w.heap.size + 1) (by first | exact (B1.out.alloc _) | exact Blk.drewN (B1.out.alloc _) _ | exact Blk.drew (B1.out.alloc _)) (by simp)
  have B2x := o.blk (t := 23) (cs := #[.int .i64 c.1, .int .i64 c.2]) (g := w.heap.size + 2) (by first | exact (B2.out.alloc _) | exact Blk.drewN (B2.out.alloc _) _ | exact Blk.drew (B2.out.alloc _)) (by simp)
  have B3x := o.blk (t := 23) (cs := #[.int .i64 s.1, .int .i64 s.2]) (g := w10.heap.size) (by first | exact B3n | exact Blk.drewN B3n _ | exact Blk.drew B3n) (by simp)
  have O11x : Only [] w w11 := (by first | exact Only.trans (O10.out.alloc _) o (by simp) | exact Only.trans (Only.drewN (O10.out.alloc _) _) o (by simp) | exact Only.trans (Only.drew (O10.out.alloc _)) o (by simp))
  obtain ⟨B0c0, B0c1, B0l⟩ := B0x.facts2
  obtain ⟨B1c0, B1c1, B1l⟩ := B1x.facts2
  obtain ⟨B2c0, B2c1, B2l⟩ := B2x.facts2
  obtain ⟨B3c0, B3c1, B3l⟩ := B3x.facts2
  clear B0 B1 B2 B3n O10 o
  have B0 := Lib.hid B0x; have B1 := Lib.hid B1x; have B2 := Lib.hid B2x; have B3 := Lib.hid B3x; have O11 := Lib.hid O11x
  clear B0x B1x B2x B3x O11x
  go_wp2_with (fail)
  go_region_held3 (fun w' => w'.cell? ⟨w.heap.size + 2, 0, none⟩ = some (.int .i64 c.1) ∧ w'.cell? ⟨w.heap.size + 2, 1, none⟩ = some (.int .i64 c.2) ∧ w'.cell? ⟨w10.heap.size, 0, none⟩ = some (.int .i64 s.1) ∧ w'.cell? ⟨w10.heap.size, 1, none⟩ = some (.int .i64 s.2) ∧ w'.cell? ⟨w11.heap.size, 0, none⟩ = some (.int .i64 t.1) ∧ w'.cell? ⟨w11.heap.size, 1, none⟩ = some (.int .i64 t.2)) (first | (go_keep; done) | (refine ⟨?_, ?_, ?_, ?_, ?_, ?_⟩ <;> (go_simp; done)))
    (first
      | (go_at_call 22; refine (never_any _).mono ?_; rintro e w12 ⟨rfl, o⟩; have B4n : Blk (w11.alloc (.cells #[.int .i64 t.1, .int .i64 t.2] 23)) (w11.heap.size) 23 #[.int .i64 t.1, .int .i64 t.2] := (by have h := Blk.new w11 23 #[.int .i64 t.1, .int .i64 t.2]; simpa using h); have B0x := o.blk (t := 23) (cs := #[.int .i64 a.1, .int .i64 a.2]) (g := w.heap.size) (by first | exact (B0.out.alloc _) | exact Blk.drewN (B0.out.alloc _) _ | exact Blk.drew (B0.out.alloc _)) (by simp); have B1x := o.blk (t := 23) (cs := #[.int .i64 a.1, .int .i64 a.2]) (g := w.heap.size + 1) (by first | exact (B1.out.alloc _) | exact Blk.drewN (B1.out.alloc _) _ | exact Blk.drew (B1.out.alloc _)) (by simp); have B2x := o.blk (t := 23) (cs := #[.int .i64 c.1, .int .i64 c.2]) (g := w.heap.size + 2) (by first | exact (B2.out.alloc _) | exact Blk.drewN (B2.out.alloc _) _ | exact Blk.drew (B2.out.alloc _)) (by simp); have B3x := o.blk (t := 23) (cs := #[.int .i64 s.1, .int .i64 s.2]) (g := w10.heap.size) (by first | exact (B3.out.alloc _) | exact Blk.drewN (B3.out.alloc _) _ | exact Blk.drew (B3.out.alloc _)) (by simp); have B4x := o.blk (t := 23) (cs := #[.int .i64 t.1, .int .i64 t.2]) (g := w11.heap.size) (by first | exact B4n | exact Blk.drewN B4n _ | exact Blk.drew B4n) (by simp); have O12x : Only [] w w12 := (by first | exact Only.trans (O11.out.alloc _) o (by simp) | exact Only.trans (Only.drewN (O11.out.alloc _) _) o (by simp) | exact Only.trans (Only.drew (O11.out.alloc _)) o (by simp)); obtain ⟨B0c0, B0c1, B0l⟩ := B0x.facts2; obtain ⟨B1c0, B1c1, B1l⟩ := B1x.facts2; obtain ⟨B2c0, B2c1, B2l⟩ := B2x.facts2; obtain ⟨B3c0, B3c1, B3l⟩ := B3x.facts2; obtain ⟨B4c0, B4c1, B4l⟩ := B4x.facts2; clear B0 B1 B2 B3 B4n O11 o; have B0 := Lib.hid B0x; have B1 := Lib.hid B1x; have B2 := Lib.hid B2x; have B3 := Lib.hid B3x; have B4 := Lib.hid B4x; have O12 := Lib.hid O12x; clear B0x B1x B2x B3x B4x O12x)
      | (go_at_call 16; refine (cmpr s t hs ht H5.out _).mono ?_; rintro e w13 ⟨rfl, o⟩; have B0x := o.blk (t := 23) (cs := #[.int .i64 a.1, .int .i64 a.2]) (g := w.heap.size) (by first | exact B0.out | exact Blk.drewN B0.out _ | exact Blk.drew B0.out) (by simp); have B1x := o.blk (t := 23) (cs := #[.int .i64 a.1, .int .i64 a.2]) (g := w.heap.size + 1) (by first | exact B1.out | exact Blk.drewN B1.out _ | exact Blk.drew B1.out) (by simp); have B2x := o.blk (t := 23) (cs := #[.int .i64 c.1, .int .i64 c.2]) (g := w.heap.size + 2) (by first | exact B2.out | exact Blk.drewN B2.out _ | exact Blk.drew B2.out) (by simp); have B3x := o.blk (t := 23) (cs := #[.int .i64 s.1, .int .i64 s.2]) (g := w10.heap.size) (by first | exact B3.out | exact Blk.drewN B3.out _ | exact Blk.drew B3.out) (by simp); have B4x := o.blk (t := 23) (cs := #[.int .i64 t.1, .int .i64 t.2]) (g := w11.heap.size) (by first | exact B4.out | exact Blk.drewN B4.out _ | exact Blk.drew B4.out) (by simp); have O13x : Only [] w w13 := (by first | exact Only.trans O12.out o (by simp) | exact Only.trans (Only.drewN O12.out _) o (by simp) | exact Only.trans (Only.drew O12.out) o (by simp)); obtain ⟨B0c0, B0c1, B0l⟩ := B0x.facts2; obtain ⟨B1c0, B1c1, B1l⟩ := B1x.facts2; obtain ⟨B2c0, B2c1, B2l⟩ := B2x.facts2; obtain ⟨B3c0, B3c1, B3l⟩ := B3x.facts2; obtain ⟨B4c0, B4c1, B4l⟩ := B4x.facts2; clear B0 B1 B2 B3 B4 O12 o; have B0 := Lib.hid B0x; have B1 := Lib.hid B1x; have B2 := Lib.hid B2x; have B3 := Lib.hid B3x; have B4 := Lib.hid B4x; have O13 := Lib.hid O13x; clear B0x B1x B2x B3x B4x O13x))
  go_wp2_with (fail)
  go_ret
  exact ⟨by simp, by first | exact O13.out | exact Only.drewN O13.out _ | exact Only.drew O13.out⟩

end Go.Proofs.YtgfmahfdkiblbaaDoor
